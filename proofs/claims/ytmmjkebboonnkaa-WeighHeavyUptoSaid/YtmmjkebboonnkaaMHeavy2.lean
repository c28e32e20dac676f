/- P.weighHeavy_holds, part 3 of 22: the contracts of the Go functions that the law calls, its own walk, and its plain law, for every input that the statement speaks of. -/
import Derived.Test.YtmmjkebboonnkaaMHeavy1
/- F32 -/
namespace Go.Proofs.Ytmmjkebboonnkaa.P
open Go.RowKit Go.Proofs.YtmmjkebboonnkaaW.PrintWords Go.Proofs.YtmmjkebboonnkaaW.PrintLast Go.Proofs.YtmmjkebboonnkaaW.PrintMore
attribute [local go_sem] max2_int min2_int max_two min_two max_three min_three max_four min_four   -- for this text's walks alone
set_option linter.unusedVariables false
set_option linter.unusedSimpArgs false
mutual
def larchref17_Check.l0 : Nat → List (S49) → List Int → Int → Option (Int)
 | 0, _, _, _ => none
 | k + 1, x0, x3, x4 => if x4 < (x0.length : Int) then (if 0 ≤ x4 then (if ((rd_T49 x0 x4).f1) = 0 then (if ((rd_T49 x0 x4).f1) = 1 then (if ((rd_T49 x0 x4).f0) = 0 then (if ((rd_T49 x0 x4).f3) = 0 then (if ((rd_T49 x0 x4).f2) < 0 then (larchref17_Check.j1 k x0 x3 x4 true ((rd_T49 x0 x4).f0) ((rd_T49 x0 x4).f1) ((rd_T49 x0 x4).f2) ((rd_T49 x0 x4).f3) ((rd_T49 x0 x4).f4) ((rd_T49 x0 x4).f5)) else (larchref17_Check.j1 k x0 x3 x4 (decide (((rd_T49 x0 x4).f2) > 1000000)) ((rd_T49 x0 x4).f0) ((rd_T49 x0 x4).f1) ((rd_T49 x0 x4).f2) ((rd_T49 x0 x4).f3) ((rd_T49 x0 x4).f4) ((rd_T49 x0 x4).f5))) else (larchref17_Check.j1 k x0 x3 x4 true ((rd_T49 x0 x4).f0) ((rd_T49 x0 x4).f1) ((rd_T49 x0 x4).f2) ((rd_T49 x0 x4).f3) ((rd_T49 x0 x4).f4) ((rd_T49 x0 x4).f5))) else (larchref17_Check.j1 k x0 x3 x4 true ((rd_T49 x0 x4).f0) ((rd_T49 x0 x4).f1) ((rd_T49 x0 x4).f2) ((rd_T49 x0 x4).f3) ((rd_T49 x0 x4).f4) ((rd_T49 x0 x4).f5))) else (if ((rd_T49 x0 x4).f2) < 0 then (larchref17_Check.j1 k x0 x3 x4 true ((rd_T49 x0 x4).f0) ((rd_T49 x0 x4).f1) ((rd_T49 x0 x4).f2) ((rd_T49 x0 x4).f3) ((rd_T49 x0 x4).f4) ((rd_T49 x0 x4).f5)) else (larchref17_Check.j1 k x0 x3 x4 (decide (((rd_T49 x0 x4).f2) > 1000000)) ((rd_T49 x0 x4).f0) ((rd_T49 x0 x4).f1) ((rd_T49 x0 x4).f2) ((rd_T49 x0 x4).f3) ((rd_T49 x0 x4).f4) ((rd_T49 x0 x4).f5)))) else (if ((rd_T49 x0 x4).f1) = 1 then (if ((rd_T49 x0 x4).f0) = 0 then (if ((rd_T49 x0 x4).f3) = 0 then (if ((rd_T49 x0 x4).f2) < 0 then (larchref17_Check.j1 k x0 x3 x4 true ((rd_T49 x0 x4).f0) ((rd_T49 x0 x4).f1) ((rd_T49 x0 x4).f2) ((rd_T49 x0 x4).f3) ((rd_T49 x0 x4).f4) ((rd_T49 x0 x4).f5)) else (larchref17_Check.j1 k x0 x3 x4 (decide (((rd_T49 x0 x4).f2) > 1000000)) ((rd_T49 x0 x4).f0) ((rd_T49 x0 x4).f1) ((rd_T49 x0 x4).f2) ((rd_T49 x0 x4).f3) ((rd_T49 x0 x4).f4) ((rd_T49 x0 x4).f5))) else (larchref17_Check.j1 k x0 x3 x4 true ((rd_T49 x0 x4).f0) ((rd_T49 x0 x4).f1) ((rd_T49 x0 x4).f2) ((rd_T49 x0 x4).f3) ((rd_T49 x0 x4).f4) ((rd_T49 x0 x4).f5))) else (larchref17_Check.j1 k x0 x3 x4 true ((rd_T49 x0 x4).f0) ((rd_T49 x0 x4).f1) ((rd_T49 x0 x4).f2) ((rd_T49 x0 x4).f3) ((rd_T49 x0 x4).f4) ((rd_T49 x0 x4).f5))) else (larchref17_Check.j1 k x0 x3 x4 true ((rd_T49 x0 x4).f0) ((rd_T49 x0 x4).f1) ((rd_T49 x0 x4).f2) ((rd_T49 x0 x4).f3) ((rd_T49 x0 x4).f4) ((rd_T49 x0 x4).f5)))) else (none)) else (larchref17_Check.l1 k x0 x3 1)
def larchref17_Check.j1 : Nat → List (S49) → List Int → Int → Bool → Int → Int → Int → Int → Int → Int → Option (Int)
 | 0, _, _, _, _, _, _, _, _, _, _ => none
 | k + 1, x0, x3, x4, x58, x327000, x327001, x327002, x327003, x327004, x327005 => if x58 = true then (some 3) else ((larchref17_leaf.f x327000 x327001 x327002 x327003 x327004 x327005).bind fun t327 => (if t327 = true then (larchref17_Check.l0 k x0 x3 (wrap64 (x4 + 1))) else (if x327003 = 0 then (if x327004 < 1 then (some 3) else (if x327004 ≥ (x0.length : Int) then (some 3) else (if x327005 < 1 then (some 3) else (if x327005 ≥ (x0.length : Int) then (some 3) else (if x327004 = x327005 then (some 3) else (if 0 ≤ x327004 then (if x327004 < (x3.length : Int) then ((some (x3.set (x327004 : Int).toNat (wrap64 ((rd x3 x327004) + 1)) : List Int)).bind fun y329 => (if 0 ≤ x327005 then (if x327005 < (x3.length : Int) then (larchref17_Check.l0 k x0 (y329.set (x327005 : Int).toNat (wrap64 ((rd y329 x327005) + 1))) (wrap64 (x4 + 1))) else (none)) else (none))) else (none)) else (none))))))) else (some 3))))
def larchref17_Check.l1 : Nat → List (S49) → List Int → Int → Option (Int)
 | 0, _, _, _ => none
 | k + 1, x0, x3, x6 => if x6 < (x0.length : Int) then (if 0 ≤ x6 then (if x6 < (x3.length : Int) then (if (rd x3 x6) = 1 then (larchref17_Check.l1 k x0 x3 (wrap64 (x6 + 1))) else (some 3)) else (none)) else (none)) else (if 0 < (x3.length : Int) then (if (rd x3 0) = 0 then ((larchref17_Order.f k x0 0).bind fun t334 => (if (t334.length : Int) = (x0.length : Int) then (some 0) else (some 3))) else (some 3)) else (none))
end
def larchref17_Check.f (k : Nat) (l0 : List (S49)) : Option (Int) := if (l0.length : Int) > 100000 then (some 2) else (if (l0.length : Int) = 0 then (some 3) else (if 0 ≤ (l0.length : Int) then (if ((l0.length : Int) : Int).toNat ≤ 35184372088832 then (larchref17_Check.l0 k l0 (List.replicate ((l0.length : Int) : Int).toNat 0) 0) else (none)) else (none)))
theorem larchref17_Check.mono_l : ∀ k, (∀ y0 y1 y2, LeO (larchref17_Check.l0 k y0 y1 y2) (larchref17_Check.l0 (k + 1) y0 y1 y2)) ∧ (∀ y0 y1 y2 y3 y4 y5 y6 y7 y8 y9, LeO (larchref17_Check.j1 k y0 y1 y2 y3 y4 y5 y6 y7 y8 y9) (larchref17_Check.j1 (k + 1) y0 y1 y2 y3 y4 y5 y6 y7 y8 y9)) ∧ (∀ y0 y1 y2, LeO (larchref17_Check.l1 k y0 y1 y2) (larchref17_Check.l1 (k + 1) y0 y1 y2))
 | 0 => ⟨fun _ _ _ r h => by simp [larchref17_Check.l0] at h, fun _ _ _ _ _ _ _ _ _ _ r h => by simp [larchref17_Check.j1] at h, fun _ _ _ r h => by simp [larchref17_Check.l1] at h⟩
 | k + 1 => by
  obtain ⟨ih0, ih1, ih2⟩ := larchref17_Check.mono_l k
  refine ⟨?_, ?_, ?_⟩
  ·
   intro y0 y1 y2
   unfold larchref17_Check.l0
   repeat' first
   | (with_reducible exact ih0 _ _ _)
   | (with_reducible exact ih1 _ _ _ _ _ _ _ _ _ _)
   | (with_reducible exact ih2 _ _ _)
   | (with_reducible exact larchref17_Order.mono _ _ _)
   | (with_reducible exact LeO.refl _)
   | (with_reducible exact LeO.none _)
   | (with_reducible refine LeO.ite ?_ ?_)
   | (with_reducible refine LeO.bind ?_ (fun _ => ?_))
   | exact ih0 _ _ _
   | exact ih1 _ _ _ _ _ _ _ _ _ _
   | exact ih2 _ _ _
   | exact larchref17_Order.mono _ _ _
   | exact LeO.none _
   | refine LeO.ite ?_ ?_
   | refine LeO.bind ?_ (fun _ => ?_)
  ·
   intro y0 y1 y2 y3 y4 y5 y6 y7 y8 y9
   unfold larchref17_Check.j1
   repeat' first
   | (with_reducible exact ih0 _ _ _)
   | (with_reducible exact ih1 _ _ _ _ _ _ _ _ _ _)
   | (with_reducible exact ih2 _ _ _)
   | (with_reducible exact larchref17_Order.mono _ _ _)
   | (with_reducible exact LeO.refl _)
   | (with_reducible exact LeO.none _)
   | (with_reducible refine LeO.ite ?_ ?_)
   | (with_reducible refine LeO.bind ?_ (fun _ => ?_))
   | exact ih0 _ _ _
   | exact ih1 _ _ _ _ _ _ _ _ _ _
   | exact ih2 _ _ _
   | exact larchref17_Order.mono _ _ _
   | exact LeO.none _
   | refine LeO.ite ?_ ?_
   | refine LeO.bind ?_ (fun _ => ?_)
  ·
   intro y0 y1 y2
   unfold larchref17_Check.l1
   repeat' first
   | (with_reducible exact ih0 _ _ _)
   | (with_reducible exact ih1 _ _ _ _ _ _ _ _ _ _)
   | (with_reducible exact ih2 _ _ _)
   | (with_reducible exact larchref17_Order.mono _ _ _)
   | (with_reducible exact LeO.refl _)
   | (with_reducible exact LeO.none _)
   | (with_reducible refine LeO.ite ?_ ?_)
   | (with_reducible refine LeO.bind ?_ (fun _ => ?_))
   | exact ih0 _ _ _
   | exact ih1 _ _ _ _ _ _ _ _ _ _
   | exact ih2 _ _ _
   | exact larchref17_Order.mono _ _ _
   | exact LeO.none _
   | refine LeO.ite ?_ ?_
   | refine LeO.bind ?_ (fun _ => ?_)
theorem larchref17_Check.mono : ∀ a0 k, LeO (larchref17_Check.f k a0) (larchref17_Check.f (k + 1) a0) := by
 intro a0 k
 obtain ⟨ih0, ih1, ih2⟩ := larchref17_Check.mono_l k
 unfold larchref17_Check.f
 repeat' first
   | (with_reducible exact ih0 _ _ _)
   | (with_reducible exact ih1 _ _ _ _ _ _ _ _ _ _)
   | (with_reducible exact ih2 _ _ _)
   | (with_reducible exact larchref17_Order.mono _ _ _)
   | (with_reducible exact LeO.refl _)
   | (with_reducible exact LeO.none _)
   | (with_reducible refine LeO.ite ?_ ?_)
   | (with_reducible refine LeO.bind ?_ (fun _ => ?_))
   | exact ih0 _ _ _
   | exact ih1 _ _ _ _ _ _ _ _ _ _
   | exact ih2 _ _ _
   | exact larchref17_Order.mono _ _ _
   | exact LeO.none _
   | refine LeO.ite ?_ ?_
   | refine LeO.bind ?_ (fun _ => ?_)
set_option maxHeartbeats 8000000 in
set_option maxRecDepth 100000 in
theorem larchref17_Check.calls (k : Nat) (A0 : Option Addr) (c0 : Nat) (l0 : List (S49)) (r : Int) (w : World) (hr0 : Kd.C k49 w A0 l0.length l0) (hc0 : l0.length ≤ c0) (h : larchref17_Check.f k l0 = some r) :
  Calls Try.prog 59 #[.slice A0 l0.length c0] w fun e w' => e = .returned (.int .i64 r) ∧ Below w.heap.size w w' := by
 have hu49 := Try.underlying49
 have HR0 := Aside0.mk hr0
 have HC0 := Aside0.mk hc0
 clear hr0 hc0
 have HB := Aside0.mk (Below.refl w.heap.size w)
 have H : (if (l0.length : Int) > 100000 then (some 2) else (if (l0.length : Int) = 0 then (some 3) else (if 0 ≤ (l0.length : Int) then (if ((l0.length : Int) : Int).toNat ≤ 35184372088832 then (larchref17_Check.l0 k l0 (List.replicate ((l0.length : Int) : Int).toNat 0) 0) else (none)) else (none)))) = some r := h
 clear h
 by_cases c2 : (l0.length : Int) > 100000
 ·
  rw [if_pos c2] at H
  have c2b0 : decide (100000 < (l0.length : Int)) = true := decide_eq_true c2
  have c2b1 : decide (100000 < l0.length) = true := decide_eq_true (by omega)
  clear c2
  obtain rfl := Option.some.inj H
  go_enter Try.func59, Try.ntmps59
  go_wp2
  go_ret
  exact ⟨by first | rfl | (simp [errW_none, errW_some] <;> rfl) | (simp [*, errW_none, errW_some] <;> rfl), by repeat (first | (with_reducible first | exact HB.out | apply below_alloc | apply pw_below_drewN | apply below_drew1) | exact HB.out)⟩
 ·
  rw [if_neg c2] at H
  have c2b0 : decide (100000 < (l0.length : Int)) = false := decide_eq_false c2
  have c2b1 : decide (100000 < l0.length) = false := decide_eq_false (by omega)
  clear c2
  by_cases c3 : (l0.length : Int) = 0
  ·
   rw [if_pos c3] at H
   have c3b0 : ((l0.length : Int) == 0) = true := beq_iff_eq.mpr c3
   have c3b1 : ((l0.length : Int) != 0) = false := bne_eq_false_iff_eq.mpr c3
   clear c3
   obtain rfl := Option.some.inj H
   go_enter Try.func59, Try.ntmps59
   go_wp2
   go_ret
   exact ⟨by first | rfl | (simp [errW_none, errW_some] <;> rfl) | (simp [*, errW_none, errW_some] <;> rfl), by repeat (first | (with_reducible first | exact HB.out | apply below_alloc | apply pw_below_drewN | apply below_drew1) | exact HB.out)⟩
  ·
   rw [if_neg c3] at H
   have c3b0 : ((l0.length : Int) == 0) = false := beq_eq_false_iff_ne.mpr c3
   have c3b1 : ((l0.length : Int) != 0) = true := bne_iff_ne.mpr c3
   have c3b2 : ¬ (l0 = []) := fun h_ => c3 (by rw [h_]; rfl)
   by_cases c4 : 0 ≤ (l0.length : Int)
   ·
    rw [if_pos c4] at H
    have c4b0 := eq_true c4
    have c4b1 : decide (0 ≤ (l0.length : Int)) = true := decide_eq_true c4
    clear c4
    by_cases c5 : ((l0.length : Int) : Int).toNat ≤ 35184372088832
    ·
     rw [if_pos c5] at H
     have c5b0 := eq_true c5
     have c5b1 : decide (((l0.length : Int) : Int).toNat ≤ 35184372088832) = true := decide_eq_true c5
     clear c5
     obtain ⟨y322, hy322⟩ : ∃ y_ : List Int, y_ = (List.replicate ((l0.length : Int) : Int).toNat 0) := ⟨_, rfl⟩
     replace H : (larchref17_Check.l0 k l0 y322 0) = some r := by first | (rw [hy322]; with_reducible exact H) | (have H2_ := (Option.bind_some _ _).symm.trans H; rw [hy322]; with_reducible exact H2_) | (have H2_ := (Option.bind_some _ _).symm.trans H; with_reducible exact H2_) | with_reducible exact H | (rw [hy322]; exact H) | exact H
     have Ny322 := Aside0.mk hy322
     clear hy322
     have H' := Aside0.mk H
     clear H
     go_enter Try.func59, Try.ntmps59
     go_wp2_with (first | ((with_reducible refine gate_dst (N := 15) rfl ?_); (try (refine gate_guard (by rfl) ?_; dsimp only)); refine Kd.R_make (Kd.int .i64) _ 3 rfl (N := 15) rfl 23 _ _ rfl (l0.length : Int) rfl rfl Try.underlying23 (.int .i64 0) 8 info3 rfl (by decide) (by omega) 0 (ok := fun _ => True) (okp := fun _ => True) rfl (fun _ hk => hk) trivial (of_decide_eq_true (by first | (with_reducible assumption) | assumption)) (Nat.le_trans (Nat.mul_le_mul_right _ (of_decide_eq_true (by first | (with_reducible assumption) | assumption) : (l0.length : Int).toNat ≤ 35184372088832)) (by omega)) (Below.refl _ _) (Nat.le_refl _) ?_; intro v323 w6 ho7 hb hg_ hnew_; clear hg_ hnew_; (first | rw [← Ny322.out] at ho7 | (simp only [Int.reduceToNat] at ho7; rw [← Ny322.out] at ho7)); have n0_ := Aside0.mk (Kd.R_lower ho7 (below_size (by repeat (first | (with_reducible first | exact HB.out | apply below_alloc | apply pw_below_drewN | apply below_drew1) | exact HB.out)))); have n1_ := Aside0.mk (below_step (by repeat (first | (with_reducible first | exact HB.out | apply below_alloc | apply pw_below_drewN | apply below_drew1) | exact HB.out)) hb); clear HB; have HO324 := n0_; have HB := n1_; clear n0_ n1_; clear hb ho7))
     go_loopg [4] k (fun kq v4 w' => ∃ (x3_1 : List Int) (x4_1 : Int), v4 = .int .i64 x4_1 ∧ Aside0 (larchref17_Check.l0 kq l0 x3_1 x4_1 = some r) ∧ Aside0 (kq ≤ k) ∧ Aside0 (Kd.R (Kd.int .i64) 3 w' w.heap.size (fun _ => True) v323 x3_1) ∧ Aside0 (Below w.heap.size w w'))
     case atStart => exact ⟨(y322), (0), (by first | rfl | (simp; done) | (simp [*]; done)), H', ⟨Nat.le_refl _⟩, ⟨by (with_reducible repeat (first | apply Kd.R_alloc | apply Kd.R_drewN | apply Kd.R_drew)); exact HO324.out⟩, ⟨by repeat (first | (with_reducible first | exact HB.out | apply below_alloc | apply pw_below_drewN | apply below_drew1) | exact HB.out)⟩⟩
     case round =>
      clear H'
      try clear c2
      try clear c2b0
      try clear c2b1
      try clear p2
      try clear c3
      try clear c3b0
      try clear c3b1
      try clear c3b2
      try clear c4
      try clear c4b0
      try clear c4b1
      try clear c5
      try clear c5b0
      try clear c5b1
      obtain ⟨x3_1, x4_1, rfl, HA, HK1, HO_3, HB⟩ := hrel
      cases gk with
      | zero => exact absurd HA.out (by simp [larchref17_Check.l0])
      | succ k1 =>
       have H := HA.out
       clear HA
       simp only [larchref17_Check.l0] at H
       by_cases c8 : x4_1 < (l0.length : Int)
       ·
        rw [if_pos c8] at H
        have c8b0 : decide (x4_1 < (l0.length : Int)) = true := decide_eq_true c8
        clear c8
        by_cases c9 : 0 ≤ x4_1
        ·
         rw [if_pos c9] at H
         have c9b0 : decide (0 ≤ x4_1) = true := decide_eq_true c9
         clear c9
         have HC10 := Aside0.mk H
         clear H
         have p325 : 0 ≤ (x4_1 : Int) := of_decide_eq_true (by first | (with_reducible assumption) | assumption)
         have q325 : x4_1 < (l0.length : Int) := of_decide_eq_true (by first | (with_reducible assumption) | assumption)
         obtain ⟨ad325, e325, hx325_0, hx325_1, hx325_2, hx325_3, hx325_4, hx325_5⟩ := at_T49 HR0.out x4_1 p325 q325
         cases e325
         replace hx325_0 := (HB.out.cell (World.block_lt_of_cell? w _ hx325_0)).trans hx325_0
         replace hx325_1 := (HB.out.cell (World.block_lt_of_cell? w _ hx325_1)).trans hx325_1
         replace hx325_2 := (HB.out.cell (World.block_lt_of_cell? w _ hx325_2)).trans hx325_2
         replace hx325_3 := (HB.out.cell (World.block_lt_of_cell? w _ hx325_3)).trans hx325_3
         replace hx325_4 := (HB.out.cell (World.block_lt_of_cell? w _ hx325_4)).trans hx325_4
         replace hx325_5 := (HB.out.cell (World.block_lt_of_cell? w _ hx325_5)).trans hx325_5
         replace p325 := eq_true p325
         replace q325 := eq_true q325
         go_upto_region 10 with (first | ((with_reducible refine gate_dst (N := 5) rfl ?_); (try (refine gate_guard (by rfl) ?_; dsimp only)); refine box_event ?hg (N := 5) ?hd (cs := #[.int .i64 0, .int .i64 0, .int .i64 0, .int .i64 0, .int .i64 0, .int .i64 0]) (t := 49) ?hr ?_; (case hd => rfl); (case hg => rfl); (case hr => first | (go_simp; done) | (go_simp; rfl)); intro gb326 hg w11 hbox hb; have n0_ := Aside0.mk (Kd.R_below (by (with_reducible repeat (first | apply Kd.R_alloc | apply Kd.R_drewN | apply Kd.R_drew)); exact HO_3.out) hb); have n1_ := Aside0.mk (below_step (by repeat (first | (with_reducible first | exact HB.out | apply below_alloc | apply pw_below_drewN | apply below_drew1) | exact HB.out)) hb); have n2_ := Aside0.mk (hbox); have n3_ := Aside0.mk ((by rw [hg]; exact (below_size (by repeat (first | (with_reducible first | exact HB.out | apply below_alloc | apply pw_below_drewN | apply below_drew1) | exact HB.out))) : w.heap.size ≤ gb326)); have n4_ := Aside0.mk ((by rw [hg]; exact (below_size (by repeat (first | (with_reducible first | exact HB.out | apply below_alloc | apply pw_below_drewN | apply below_drew1) | exact HB.out))) : w.heap.size ≤ gb326)); clear HO_3; clear HB; have HO_3 := n0_; have HB := n1_; have BK326 := n2_; have GW326 := n3_; have GE326 := n4_; clear n0_ n1_ n2_ n3_ n4_; clear hb hbox hg; have hcz12_0 : w11.cell? ⟨gb326, 0, none⟩ = some (.int .i64 0) := (blk_cell BK326.out 0).trans rfl; have hcz12_1 : w11.cell? ⟨gb326, 1, none⟩ = some (.int .i64 0) := (blk_cell BK326.out 1).trans rfl; have hcz12_2 : w11.cell? ⟨gb326, 2, none⟩ = some (.int .i64 0) := (blk_cell BK326.out 2).trans rfl; have hcz12_3 : w11.cell? ⟨gb326, 3, none⟩ = some (.int .i64 0) := (blk_cell BK326.out 3).trans rfl; have hcz12_4 : w11.cell? ⟨gb326, 4, none⟩ = some (.int .i64 0) := (blk_cell BK326.out 4).trans rfl; have hcz12_5 : w11.cell? ⟨gb326, 5, none⟩ = some (.int .i64 0) := (blk_cell BK326.out 5).trans rfl; have hfz12_0 := blk_frozen BK326.out 0; have hfz12_1 := blk_frozen BK326.out 1; have hfz12_2 := blk_frozen BK326.out 2; have hfz12_3 := blk_frozen BK326.out 3; have hfz12_4 := blk_frozen BK326.out 4; have hfz12_5 := blk_frozen BK326.out 5))
         (try simp only [Act.put, List.setIfInBounds_toArray, List.set_cons_zero, List.set_cons_succ])
         go_cut [58] (fun v58 wc => ∃ (kq : Nat) (x58_9 : Bool), v58 = .bool x58_9 ∧ Aside0 (larchref17_Check.j1 kq l0 x3_1 x4_1 x58_9 ((rd_T49 l0 x4_1).f0) ((rd_T49 l0 x4_1).f1) ((rd_T49 l0 x4_1).f2) ((rd_T49 l0 x4_1).f3) ((rd_T49 l0 x4_1).f4) ((rd_T49 l0 x4_1).f5) = some r) ∧ Aside0 (kq ≤ k1) ∧ Aside0 (Kd.R (Kd.int .i64) 3 wc w.heap.size (fun _ => True) v323 x3_1) ∧ Aside0 (wc.heap[gb326]? = some (.cells #[.int .i64 ((rd_T49 l0 x4_1).f0), .int .i64 ((rd_T49 l0 x4_1).f1), .int .i64 ((rd_T49 l0 x4_1).f2), .int .i64 ((rd_T49 l0 x4_1).f3), .int .i64 ((rd_T49 l0 x4_1).f4), .int .i64 ((rd_T49 l0 x4_1).f5)] 49 (0, 0))) ∧ Aside0 (Below w.heap.size w wc))
         case first =>
          have H := HC10.out
          clear HC10
          by_cases c13 : ((rd_T49 l0 x4_1).f1) = 0
          ·
           rw [if_pos c13] at H
           have c13b0 : (((rd_T49 l0 x4_1).f1) == 0) = true := beq_iff_eq.mpr c13
           have c13b1 : (((rd_T49 l0 x4_1).f1) != 0) = false := bne_eq_false_iff_eq.mpr c13
           clear c13
           (first | rw [c13b0] | (simp only [i64_w, i32_w]; rw [c13b0]) | skip)
           by_cases c14 : ((rd_T49 l0 x4_1).f1) = 1
           ·
            rw [if_pos c14] at H
            have c14b0 : (((rd_T49 l0 x4_1).f1) == 1) = true := beq_iff_eq.mpr c14
            have c14b1 : (((rd_T49 l0 x4_1).f1) != 1) = false := bne_eq_false_iff_eq.mpr c14
            clear c14
            by_cases c15 : ((rd_T49 l0 x4_1).f0) = 0
            ·
             rw [if_pos c15] at H
             have c15b0 : (((rd_T49 l0 x4_1).f0) == 0) = true := beq_iff_eq.mpr c15
             have c15b1 : (((rd_T49 l0 x4_1).f0) != 0) = false := bne_eq_false_iff_eq.mpr c15
             clear c15
             by_cases c16 : ((rd_T49 l0 x4_1).f3) = 0
             ·
              rw [if_pos c16] at H
              have c16b0 : (((rd_T49 l0 x4_1).f3) == 0) = true := beq_iff_eq.mpr c16
              have c16b1 : (((rd_T49 l0 x4_1).f3) != 0) = false := bne_eq_false_iff_eq.mpr c16
              clear c16
              by_cases c17 : ((rd_T49 l0 x4_1).f2) < 0
              ·
               rw [if_pos c17] at H
               have c17b0 : decide (((rd_T49 l0 x4_1).f2) < 0) = true := decide_eq_true c17
               clear c17
               have H' := Aside0.mk H
               clear H
               have hcz18_0 : w11.cell? ⟨gb326, 0, none⟩ = some (.int .i64 0) := (blk_cell BK326.out 0).trans rfl
               have hcz18_1 : w11.cell? ⟨gb326, 1, none⟩ = some (.int .i64 0) := (blk_cell BK326.out 1).trans rfl
               have hcz18_2 : w11.cell? ⟨gb326, 2, none⟩ = some (.int .i64 0) := (blk_cell BK326.out 2).trans rfl
               have hcz18_3 : w11.cell? ⟨gb326, 3, none⟩ = some (.int .i64 0) := (blk_cell BK326.out 3).trans rfl
               have hcz18_4 : w11.cell? ⟨gb326, 4, none⟩ = some (.int .i64 0) := (blk_cell BK326.out 4).trans rfl
               have hcz18_5 : w11.cell? ⟨gb326, 5, none⟩ = some (.int .i64 0) := (blk_cell BK326.out 5).trans rfl
               have hfz18_0 := blk_frozen BK326.out 0
               have hfz18_1 := blk_frozen BK326.out 1
               have hfz18_2 := blk_frozen BK326.out 2
               have hfz18_3 := blk_frozen BK326.out 3
               have hfz18_4 := blk_frozen BK326.out 4
               have hfz18_5 := blk_frozen BK326.out 5
               go_wp2
               go_meet
               case rel => exact ⟨_, (true), (by first | rfl | (simp; done) | (simp [*]; done)), H', ⟨by have := HK1.out; first | omega | exact Nat.le_refl _⟩, ⟨by (with_reducible repeat (first | apply Kd.R_alloc | apply Kd.R_drewN | apply Kd.R_drew)); exact Kd.R_mono (Kd.R_far (p := ⟨gb326, 5, none⟩) (Kd.R_far (p := ⟨gb326, 4, none⟩) (Kd.R_far (p := ⟨gb326, 3, none⟩) (Kd.R_far (p := ⟨gb326, 2, none⟩) (Kd.R_far (p := ⟨gb326, 1, none⟩) (Kd.R_far (p := ⟨gb326, 0, none⟩) (Kd.R_types HO_3.out BK326.out (by decide)) (fun _ hk => hk.2) (.int .i64 ((rd_T49 l0 x4_1).f0))) (fun _ hk => hk.2) (.int .i64 ((rd_T49 l0 x4_1).f1))) (fun _ hk => hk.2) (.int .i64 ((rd_T49 l0 x4_1).f2))) (fun _ hk => hk.2) (.int .i64 ((rd_T49 l0 x4_1).f3))) (fun _ hk => hk.2) (.int .i64 ((rd_T49 l0 x4_1).f4))) (fun _ hk => hk.2) (.int .i64 ((rd_T49 l0 x4_1).f5))) (fun _ hk => trivial)⟩, ⟨by (with_reducible repeat (first | refine blk_drewN ?_ _ | refine blk_drew ?_ | refine blk_alloc ?_ _)); refine blk_put (cs := #[.int .i64 ((rd_T49 l0 x4_1).f0), .int .i64 ((rd_T49 l0 x4_1).f1), .int .i64 ((rd_T49 l0 x4_1).f2), .int .i64 ((rd_T49 l0 x4_1).f3), .int .i64 ((rd_T49 l0 x4_1).f4), .int .i64 0]) ?_ 5 _ rfl; (with_reducible repeat (first | refine blk_drewN ?_ _ | refine blk_drew ?_ | refine blk_alloc ?_ _)); refine blk_put (cs := #[.int .i64 ((rd_T49 l0 x4_1).f0), .int .i64 ((rd_T49 l0 x4_1).f1), .int .i64 ((rd_T49 l0 x4_1).f2), .int .i64 ((rd_T49 l0 x4_1).f3), .int .i64 0, .int .i64 0]) ?_ 4 _ rfl; (with_reducible repeat (first | refine blk_drewN ?_ _ | refine blk_drew ?_ | refine blk_alloc ?_ _)); refine blk_put (cs := #[.int .i64 ((rd_T49 l0 x4_1).f0), .int .i64 ((rd_T49 l0 x4_1).f1), .int .i64 ((rd_T49 l0 x4_1).f2), .int .i64 0, .int .i64 0, .int .i64 0]) ?_ 3 _ rfl; (with_reducible repeat (first | refine blk_drewN ?_ _ | refine blk_drew ?_ | refine blk_alloc ?_ _)); refine blk_put (cs := #[.int .i64 ((rd_T49 l0 x4_1).f0), .int .i64 ((rd_T49 l0 x4_1).f1), .int .i64 0, .int .i64 0, .int .i64 0, .int .i64 0]) ?_ 2 _ rfl; (with_reducible repeat (first | refine blk_drewN ?_ _ | refine blk_drew ?_ | refine blk_alloc ?_ _)); refine blk_put (cs := #[.int .i64 ((rd_T49 l0 x4_1).f0), .int .i64 0, .int .i64 0, .int .i64 0, .int .i64 0, .int .i64 0]) ?_ 1 _ rfl; (with_reducible repeat (first | refine blk_drewN ?_ _ | refine blk_drew ?_ | refine blk_alloc ?_ _)); refine blk_put (cs := #[.int .i64 0, .int .i64 0, .int .i64 0, .int .i64 0, .int .i64 0, .int .i64 0]) ?_ 0 _ rfl; (with_reducible repeat (first | refine blk_drewN ?_ _ | refine blk_drew ?_ | refine blk_alloc ?_ _)); exact BK326.out⟩, ⟨by repeat (first | (with_reducible first | exact HB.out | apply below_alloc | apply pw_below_drewN | apply below_drew1 | refine below_set ?_ GE326.out) | exact HB.out)⟩⟩
              ·
               rw [if_neg c17] at H
               have c17b0 : decide (((rd_T49 l0 x4_1).f2) < 0) = false := decide_eq_false c17
               clear c17
               have H' := Aside0.mk H
               clear H
               have hcz19_0 : w11.cell? ⟨gb326, 0, none⟩ = some (.int .i64 0) := (blk_cell BK326.out 0).trans rfl
               have hcz19_1 : w11.cell? ⟨gb326, 1, none⟩ = some (.int .i64 0) := (blk_cell BK326.out 1).trans rfl
               have hcz19_2 : w11.cell? ⟨gb326, 2, none⟩ = some (.int .i64 0) := (blk_cell BK326.out 2).trans rfl
               have hcz19_3 : w11.cell? ⟨gb326, 3, none⟩ = some (.int .i64 0) := (blk_cell BK326.out 3).trans rfl
               have hcz19_4 : w11.cell? ⟨gb326, 4, none⟩ = some (.int .i64 0) := (blk_cell BK326.out 4).trans rfl
               have hcz19_5 : w11.cell? ⟨gb326, 5, none⟩ = some (.int .i64 0) := (blk_cell BK326.out 5).trans rfl
               have hfz19_0 := blk_frozen BK326.out 0
               have hfz19_1 := blk_frozen BK326.out 1
               have hfz19_2 := blk_frozen BK326.out 2
               have hfz19_3 := blk_frozen BK326.out 3
               have hfz19_4 := blk_frozen BK326.out 4
               have hfz19_5 := blk_frozen BK326.out 5
               go_wp2
               go_meet
               case rel => exact ⟨_, (decide (((rd_T49 l0 x4_1).f2) > 1000000)), (by first | rfl | (simp; done) | (simp [*]; done)), H', ⟨by have := HK1.out; first | omega | exact Nat.le_refl _⟩, ⟨by (with_reducible repeat (first | apply Kd.R_alloc | apply Kd.R_drewN | apply Kd.R_drew)); exact Kd.R_mono (Kd.R_far (p := ⟨gb326, 5, none⟩) (Kd.R_far (p := ⟨gb326, 4, none⟩) (Kd.R_far (p := ⟨gb326, 3, none⟩) (Kd.R_far (p := ⟨gb326, 2, none⟩) (Kd.R_far (p := ⟨gb326, 1, none⟩) (Kd.R_far (p := ⟨gb326, 0, none⟩) (Kd.R_types HO_3.out BK326.out (by decide)) (fun _ hk => hk.2) (.int .i64 ((rd_T49 l0 x4_1).f0))) (fun _ hk => hk.2) (.int .i64 ((rd_T49 l0 x4_1).f1))) (fun _ hk => hk.2) (.int .i64 ((rd_T49 l0 x4_1).f2))) (fun _ hk => hk.2) (.int .i64 ((rd_T49 l0 x4_1).f3))) (fun _ hk => hk.2) (.int .i64 ((rd_T49 l0 x4_1).f4))) (fun _ hk => hk.2) (.int .i64 ((rd_T49 l0 x4_1).f5))) (fun _ hk => trivial)⟩, ⟨by (with_reducible repeat (first | refine blk_drewN ?_ _ | refine blk_drew ?_ | refine blk_alloc ?_ _)); refine blk_put (cs := #[.int .i64 ((rd_T49 l0 x4_1).f0), .int .i64 ((rd_T49 l0 x4_1).f1), .int .i64 ((rd_T49 l0 x4_1).f2), .int .i64 ((rd_T49 l0 x4_1).f3), .int .i64 ((rd_T49 l0 x4_1).f4), .int .i64 0]) ?_ 5 _ rfl; (with_reducible repeat (first | refine blk_drewN ?_ _ | refine blk_drew ?_ | refine blk_alloc ?_ _)); refine blk_put (cs := #[.int .i64 ((rd_T49 l0 x4_1).f0), .int .i64 ((rd_T49 l0 x4_1).f1), .int .i64 ((rd_T49 l0 x4_1).f2), .int .i64 ((rd_T49 l0 x4_1).f3), .int .i64 0, .int .i64 0]) ?_ 4 _ rfl; (with_reducible repeat (first | refine blk_drewN ?_ _ | refine blk_drew ?_ | refine blk_alloc ?_ _)); refine blk_put (cs := #[.int .i64 ((rd_T49 l0 x4_1).f0), .int .i64 ((rd_T49 l0 x4_1).f1), .int .i64 ((rd_T49 l0 x4_1).f2), .int .i64 0, .int .i64 0, .int .i64 0]) ?_ 3 _ rfl; (with_reducible repeat (first | refine blk_drewN ?_ _ | refine blk_drew ?_ | refine blk_alloc ?_ _)); refine blk_put (cs := #[.int .i64 ((rd_T49 l0 x4_1).f0), .int .i64 ((rd_T49 l0 x4_1).f1), .int .i64 0, .int .i64 0, .int .i64 0, .int .i64 0]) ?_ 2 _ rfl; (with_reducible repeat (first | refine blk_drewN ?_ _ | refine blk_drew ?_ | refine blk_alloc ?_ _)); refine blk_put (cs := #[.int .i64 ((rd_T49 l0 x4_1).f0), .int .i64 0, .int .i64 0, .int .i64 0, .int .i64 0, .int .i64 0]) ?_ 1 _ rfl; (with_reducible repeat (first | refine blk_drewN ?_ _ | refine blk_drew ?_ | refine blk_alloc ?_ _)); refine blk_put (cs := #[.int .i64 0, .int .i64 0, .int .i64 0, .int .i64 0, .int .i64 0, .int .i64 0]) ?_ 0 _ rfl; (with_reducible repeat (first | refine blk_drewN ?_ _ | refine blk_drew ?_ | refine blk_alloc ?_ _)); exact BK326.out⟩, ⟨by repeat (first | (with_reducible first | exact HB.out | apply below_alloc | apply pw_below_drewN | apply below_drew1 | refine below_set ?_ GE326.out) | exact HB.out)⟩⟩
             ·
              rw [if_neg c16] at H
              have c16b0 : (((rd_T49 l0 x4_1).f3) == 0) = false := beq_eq_false_iff_ne.mpr c16
              have c16b1 : (((rd_T49 l0 x4_1).f3) != 0) = true := bne_iff_ne.mpr c16
              have H' := Aside0.mk H
              clear H
              have hcz20_0 : w11.cell? ⟨gb326, 0, none⟩ = some (.int .i64 0) := (blk_cell BK326.out 0).trans rfl
              have hcz20_1 : w11.cell? ⟨gb326, 1, none⟩ = some (.int .i64 0) := (blk_cell BK326.out 1).trans rfl
              have hcz20_2 : w11.cell? ⟨gb326, 2, none⟩ = some (.int .i64 0) := (blk_cell BK326.out 2).trans rfl
              have hcz20_3 : w11.cell? ⟨gb326, 3, none⟩ = some (.int .i64 0) := (blk_cell BK326.out 3).trans rfl
              have hcz20_4 : w11.cell? ⟨gb326, 4, none⟩ = some (.int .i64 0) := (blk_cell BK326.out 4).trans rfl
              have hcz20_5 : w11.cell? ⟨gb326, 5, none⟩ = some (.int .i64 0) := (blk_cell BK326.out 5).trans rfl
              have hfz20_0 := blk_frozen BK326.out 0
              have hfz20_1 := blk_frozen BK326.out 1
              have hfz20_2 := blk_frozen BK326.out 2
              have hfz20_3 := blk_frozen BK326.out 3
              have hfz20_4 := blk_frozen BK326.out 4
              have hfz20_5 := blk_frozen BK326.out 5
              go_wp2
              go_meet
              case rel => exact ⟨_, (true), (by first | rfl | (simp; done) | (simp [*]; done)), H', ⟨by have := HK1.out; first | omega | exact Nat.le_refl _⟩, ⟨by (with_reducible repeat (first | apply Kd.R_alloc | apply Kd.R_drewN | apply Kd.R_drew)); exact Kd.R_mono (Kd.R_far (p := ⟨gb326, 5, none⟩) (Kd.R_far (p := ⟨gb326, 4, none⟩) (Kd.R_far (p := ⟨gb326, 3, none⟩) (Kd.R_far (p := ⟨gb326, 2, none⟩) (Kd.R_far (p := ⟨gb326, 1, none⟩) (Kd.R_far (p := ⟨gb326, 0, none⟩) (Kd.R_types HO_3.out BK326.out (by decide)) (fun _ hk => hk.2) (.int .i64 ((rd_T49 l0 x4_1).f0))) (fun _ hk => hk.2) (.int .i64 ((rd_T49 l0 x4_1).f1))) (fun _ hk => hk.2) (.int .i64 ((rd_T49 l0 x4_1).f2))) (fun _ hk => hk.2) (.int .i64 ((rd_T49 l0 x4_1).f3))) (fun _ hk => hk.2) (.int .i64 ((rd_T49 l0 x4_1).f4))) (fun _ hk => hk.2) (.int .i64 ((rd_T49 l0 x4_1).f5))) (fun _ hk => trivial)⟩, ⟨by (with_reducible repeat (first | refine blk_drewN ?_ _ | refine blk_drew ?_ | refine blk_alloc ?_ _)); refine blk_put (cs := #[.int .i64 ((rd_T49 l0 x4_1).f0), .int .i64 ((rd_T49 l0 x4_1).f1), .int .i64 ((rd_T49 l0 x4_1).f2), .int .i64 ((rd_T49 l0 x4_1).f3), .int .i64 ((rd_T49 l0 x4_1).f4), .int .i64 0]) ?_ 5 _ rfl; (with_reducible repeat (first | refine blk_drewN ?_ _ | refine blk_drew ?_ | refine blk_alloc ?_ _)); refine blk_put (cs := #[.int .i64 ((rd_T49 l0 x4_1).f0), .int .i64 ((rd_T49 l0 x4_1).f1), .int .i64 ((rd_T49 l0 x4_1).f2), .int .i64 ((rd_T49 l0 x4_1).f3), .int .i64 0, .int .i64 0]) ?_ 4 _ rfl; (with_reducible repeat (first | refine blk_drewN ?_ _ | refine blk_drew ?_ | refine blk_alloc ?_ _)); refine blk_put (cs := #[.int .i64 ((rd_T49 l0 x4_1).f0), .int .i64 ((rd_T49 l0 x4_1).f1), .int .i64 ((rd_T49 l0 x4_1).f2), .int .i64 0, .int .i64 0, .int .i64 0]) ?_ 3 _ rfl; (with_reducible repeat (first | refine blk_drewN ?_ _ | refine blk_drew ?_ | refine blk_alloc ?_ _)); refine blk_put (cs := #[.int .i64 ((rd_T49 l0 x4_1).f0), .int .i64 ((rd_T49 l0 x4_1).f1), .int .i64 0, .int .i64 0, .int .i64 0, .int .i64 0]) ?_ 2 _ rfl; (with_reducible repeat (first | refine blk_drewN ?_ _ | refine blk_drew ?_ | refine blk_alloc ?_ _)); refine blk_put (cs := #[.int .i64 ((rd_T49 l0 x4_1).f0), .int .i64 0, .int .i64 0, .int .i64 0, .int .i64 0, .int .i64 0]) ?_ 1 _ rfl; (with_reducible repeat (first | refine blk_drewN ?_ _ | refine blk_drew ?_ | refine blk_alloc ?_ _)); refine blk_put (cs := #[.int .i64 0, .int .i64 0, .int .i64 0, .int .i64 0, .int .i64 0, .int .i64 0]) ?_ 0 _ rfl; (with_reducible repeat (first | refine blk_drewN ?_ _ | refine blk_drew ?_ | refine blk_alloc ?_ _)); exact BK326.out⟩, ⟨by repeat (first | (with_reducible first | exact HB.out | apply below_alloc | apply pw_below_drewN | apply below_drew1 | refine below_set ?_ GE326.out) | exact HB.out)⟩⟩
            ·
             rw [if_neg c15] at H
             have c15b0 : (((rd_T49 l0 x4_1).f0) == 0) = false := beq_eq_false_iff_ne.mpr c15
             have c15b1 : (((rd_T49 l0 x4_1).f0) != 0) = true := bne_iff_ne.mpr c15
             have H' := Aside0.mk H
             clear H
             have hcz21_0 : w11.cell? ⟨gb326, 0, none⟩ = some (.int .i64 0) := (blk_cell BK326.out 0).trans rfl
             have hcz21_1 : w11.cell? ⟨gb326, 1, none⟩ = some (.int .i64 0) := (blk_cell BK326.out 1).trans rfl
             have hcz21_2 : w11.cell? ⟨gb326, 2, none⟩ = some (.int .i64 0) := (blk_cell BK326.out 2).trans rfl
             have hcz21_3 : w11.cell? ⟨gb326, 3, none⟩ = some (.int .i64 0) := (blk_cell BK326.out 3).trans rfl
             have hcz21_4 : w11.cell? ⟨gb326, 4, none⟩ = some (.int .i64 0) := (blk_cell BK326.out 4).trans rfl
             have hcz21_5 : w11.cell? ⟨gb326, 5, none⟩ = some (.int .i64 0) := (blk_cell BK326.out 5).trans rfl
             have hfz21_0 := blk_frozen BK326.out 0
             have hfz21_1 := blk_frozen BK326.out 1
             have hfz21_2 := blk_frozen BK326.out 2
             have hfz21_3 := blk_frozen BK326.out 3
             have hfz21_4 := blk_frozen BK326.out 4
             have hfz21_5 := blk_frozen BK326.out 5
             go_wp2
             go_meet
             case rel => exact ⟨_, (true), (by first | rfl | (simp; done) | (simp [*]; done)), H', ⟨by have := HK1.out; first | omega | exact Nat.le_refl _⟩, ⟨by (with_reducible repeat (first | apply Kd.R_alloc | apply Kd.R_drewN | apply Kd.R_drew)); exact Kd.R_mono (Kd.R_far (p := ⟨gb326, 5, none⟩) (Kd.R_far (p := ⟨gb326, 4, none⟩) (Kd.R_far (p := ⟨gb326, 3, none⟩) (Kd.R_far (p := ⟨gb326, 2, none⟩) (Kd.R_far (p := ⟨gb326, 1, none⟩) (Kd.R_far (p := ⟨gb326, 0, none⟩) (Kd.R_types HO_3.out BK326.out (by decide)) (fun _ hk => hk.2) (.int .i64 ((rd_T49 l0 x4_1).f0))) (fun _ hk => hk.2) (.int .i64 ((rd_T49 l0 x4_1).f1))) (fun _ hk => hk.2) (.int .i64 ((rd_T49 l0 x4_1).f2))) (fun _ hk => hk.2) (.int .i64 ((rd_T49 l0 x4_1).f3))) (fun _ hk => hk.2) (.int .i64 ((rd_T49 l0 x4_1).f4))) (fun _ hk => hk.2) (.int .i64 ((rd_T49 l0 x4_1).f5))) (fun _ hk => trivial)⟩, ⟨by (with_reducible repeat (first | refine blk_drewN ?_ _ | refine blk_drew ?_ | refine blk_alloc ?_ _)); refine blk_put (cs := #[.int .i64 ((rd_T49 l0 x4_1).f0), .int .i64 ((rd_T49 l0 x4_1).f1), .int .i64 ((rd_T49 l0 x4_1).f2), .int .i64 ((rd_T49 l0 x4_1).f3), .int .i64 ((rd_T49 l0 x4_1).f4), .int .i64 0]) ?_ 5 _ rfl; (with_reducible repeat (first | refine blk_drewN ?_ _ | refine blk_drew ?_ | refine blk_alloc ?_ _)); refine blk_put (cs := #[.int .i64 ((rd_T49 l0 x4_1).f0), .int .i64 ((rd_T49 l0 x4_1).f1), .int .i64 ((rd_T49 l0 x4_1).f2), .int .i64 ((rd_T49 l0 x4_1).f3), .int .i64 0, .int .i64 0]) ?_ 4 _ rfl; (with_reducible repeat (first | refine blk_drewN ?_ _ | refine blk_drew ?_ | refine blk_alloc ?_ _)); refine blk_put (cs := #[.int .i64 ((rd_T49 l0 x4_1).f0), .int .i64 ((rd_T49 l0 x4_1).f1), .int .i64 ((rd_T49 l0 x4_1).f2), .int .i64 0, .int .i64 0, .int .i64 0]) ?_ 3 _ rfl; (with_reducible repeat (first | refine blk_drewN ?_ _ | refine blk_drew ?_ | refine blk_alloc ?_ _)); refine blk_put (cs := #[.int .i64 ((rd_T49 l0 x4_1).f0), .int .i64 ((rd_T49 l0 x4_1).f1), .int .i64 0, .int .i64 0, .int .i64 0, .int .i64 0]) ?_ 2 _ rfl; (with_reducible repeat (first | refine blk_drewN ?_ _ | refine blk_drew ?_ | refine blk_alloc ?_ _)); refine blk_put (cs := #[.int .i64 ((rd_T49 l0 x4_1).f0), .int .i64 0, .int .i64 0, .int .i64 0, .int .i64 0, .int .i64 0]) ?_ 1 _ rfl; (with_reducible repeat (first | refine blk_drewN ?_ _ | refine blk_drew ?_ | refine blk_alloc ?_ _)); refine blk_put (cs := #[.int .i64 0, .int .i64 0, .int .i64 0, .int .i64 0, .int .i64 0, .int .i64 0]) ?_ 0 _ rfl; (with_reducible repeat (first | refine blk_drewN ?_ _ | refine blk_drew ?_ | refine blk_alloc ?_ _)); exact BK326.out⟩, ⟨by repeat (first | (with_reducible first | exact HB.out | apply below_alloc | apply pw_below_drewN | apply below_drew1 | refine below_set ?_ GE326.out) | exact HB.out)⟩⟩
           ·
            rw [if_neg c14] at H
            have c14b0 : (((rd_T49 l0 x4_1).f1) == 1) = false := beq_eq_false_iff_ne.mpr c14
            have c14b1 : (((rd_T49 l0 x4_1).f1) != 1) = true := bne_iff_ne.mpr c14
            by_cases c22 : ((rd_T49 l0 x4_1).f2) < 0
            ·
             rw [if_pos c22] at H
             have c22b0 : decide (((rd_T49 l0 x4_1).f2) < 0) = true := decide_eq_true c22
             clear c22
             have H' := Aside0.mk H
             clear H
             have hcz23_0 : w11.cell? ⟨gb326, 0, none⟩ = some (.int .i64 0) := (blk_cell BK326.out 0).trans rfl
             have hcz23_1 : w11.cell? ⟨gb326, 1, none⟩ = some (.int .i64 0) := (blk_cell BK326.out 1).trans rfl
             have hcz23_2 : w11.cell? ⟨gb326, 2, none⟩ = some (.int .i64 0) := (blk_cell BK326.out 2).trans rfl
             have hcz23_3 : w11.cell? ⟨gb326, 3, none⟩ = some (.int .i64 0) := (blk_cell BK326.out 3).trans rfl
             have hcz23_4 : w11.cell? ⟨gb326, 4, none⟩ = some (.int .i64 0) := (blk_cell BK326.out 4).trans rfl
             have hcz23_5 : w11.cell? ⟨gb326, 5, none⟩ = some (.int .i64 0) := (blk_cell BK326.out 5).trans rfl
             have hfz23_0 := blk_frozen BK326.out 0
             have hfz23_1 := blk_frozen BK326.out 1
             have hfz23_2 := blk_frozen BK326.out 2
             have hfz23_3 := blk_frozen BK326.out 3
             have hfz23_4 := blk_frozen BK326.out 4
             have hfz23_5 := blk_frozen BK326.out 5
             go_wp2
             go_meet
             case rel => exact ⟨_, (true), (by first | rfl | (simp; done) | (simp [*]; done)), H', ⟨by have := HK1.out; first | omega | exact Nat.le_refl _⟩, ⟨by (with_reducible repeat (first | apply Kd.R_alloc | apply Kd.R_drewN | apply Kd.R_drew)); exact Kd.R_mono (Kd.R_far (p := ⟨gb326, 5, none⟩) (Kd.R_far (p := ⟨gb326, 4, none⟩) (Kd.R_far (p := ⟨gb326, 3, none⟩) (Kd.R_far (p := ⟨gb326, 2, none⟩) (Kd.R_far (p := ⟨gb326, 1, none⟩) (Kd.R_far (p := ⟨gb326, 0, none⟩) (Kd.R_types HO_3.out BK326.out (by decide)) (fun _ hk => hk.2) (.int .i64 ((rd_T49 l0 x4_1).f0))) (fun _ hk => hk.2) (.int .i64 ((rd_T49 l0 x4_1).f1))) (fun _ hk => hk.2) (.int .i64 ((rd_T49 l0 x4_1).f2))) (fun _ hk => hk.2) (.int .i64 ((rd_T49 l0 x4_1).f3))) (fun _ hk => hk.2) (.int .i64 ((rd_T49 l0 x4_1).f4))) (fun _ hk => hk.2) (.int .i64 ((rd_T49 l0 x4_1).f5))) (fun _ hk => trivial)⟩, ⟨by (with_reducible repeat (first | refine blk_drewN ?_ _ | refine blk_drew ?_ | refine blk_alloc ?_ _)); refine blk_put (cs := #[.int .i64 ((rd_T49 l0 x4_1).f0), .int .i64 ((rd_T49 l0 x4_1).f1), .int .i64 ((rd_T49 l0 x4_1).f2), .int .i64 ((rd_T49 l0 x4_1).f3), .int .i64 ((rd_T49 l0 x4_1).f4), .int .i64 0]) ?_ 5 _ rfl; (with_reducible repeat (first | refine blk_drewN ?_ _ | refine blk_drew ?_ | refine blk_alloc ?_ _)); refine blk_put (cs := #[.int .i64 ((rd_T49 l0 x4_1).f0), .int .i64 ((rd_T49 l0 x4_1).f1), .int .i64 ((rd_T49 l0 x4_1).f2), .int .i64 ((rd_T49 l0 x4_1).f3), .int .i64 0, .int .i64 0]) ?_ 4 _ rfl; (with_reducible repeat (first | refine blk_drewN ?_ _ | refine blk_drew ?_ | refine blk_alloc ?_ _)); refine blk_put (cs := #[.int .i64 ((rd_T49 l0 x4_1).f0), .int .i64 ((rd_T49 l0 x4_1).f1), .int .i64 ((rd_T49 l0 x4_1).f2), .int .i64 0, .int .i64 0, .int .i64 0]) ?_ 3 _ rfl; (with_reducible repeat (first | refine blk_drewN ?_ _ | refine blk_drew ?_ | refine blk_alloc ?_ _)); refine blk_put (cs := #[.int .i64 ((rd_T49 l0 x4_1).f0), .int .i64 ((rd_T49 l0 x4_1).f1), .int .i64 0, .int .i64 0, .int .i64 0, .int .i64 0]) ?_ 2 _ rfl; (with_reducible repeat (first | refine blk_drewN ?_ _ | refine blk_drew ?_ | refine blk_alloc ?_ _)); refine blk_put (cs := #[.int .i64 ((rd_T49 l0 x4_1).f0), .int .i64 0, .int .i64 0, .int .i64 0, .int .i64 0, .int .i64 0]) ?_ 1 _ rfl; (with_reducible repeat (first | refine blk_drewN ?_ _ | refine blk_drew ?_ | refine blk_alloc ?_ _)); refine blk_put (cs := #[.int .i64 0, .int .i64 0, .int .i64 0, .int .i64 0, .int .i64 0, .int .i64 0]) ?_ 0 _ rfl; (with_reducible repeat (first | refine blk_drewN ?_ _ | refine blk_drew ?_ | refine blk_alloc ?_ _)); exact BK326.out⟩, ⟨by repeat (first | (with_reducible first | exact HB.out | apply below_alloc | apply pw_below_drewN | apply below_drew1 | refine below_set ?_ GE326.out) | exact HB.out)⟩⟩
            ·
             rw [if_neg c22] at H
             have c22b0 : decide (((rd_T49 l0 x4_1).f2) < 0) = false := decide_eq_false c22
             clear c22
             have H' := Aside0.mk H
             clear H
             have hcz24_0 : w11.cell? ⟨gb326, 0, none⟩ = some (.int .i64 0) := (blk_cell BK326.out 0).trans rfl
             have hcz24_1 : w11.cell? ⟨gb326, 1, none⟩ = some (.int .i64 0) := (blk_cell BK326.out 1).trans rfl
             have hcz24_2 : w11.cell? ⟨gb326, 2, none⟩ = some (.int .i64 0) := (blk_cell BK326.out 2).trans rfl
             have hcz24_3 : w11.cell? ⟨gb326, 3, none⟩ = some (.int .i64 0) := (blk_cell BK326.out 3).trans rfl
             have hcz24_4 : w11.cell? ⟨gb326, 4, none⟩ = some (.int .i64 0) := (blk_cell BK326.out 4).trans rfl
             have hcz24_5 : w11.cell? ⟨gb326, 5, none⟩ = some (.int .i64 0) := (blk_cell BK326.out 5).trans rfl
             have hfz24_0 := blk_frozen BK326.out 0
             have hfz24_1 := blk_frozen BK326.out 1
             have hfz24_2 := blk_frozen BK326.out 2
             have hfz24_3 := blk_frozen BK326.out 3
             have hfz24_4 := blk_frozen BK326.out 4
             have hfz24_5 := blk_frozen BK326.out 5
             go_wp2
             go_meet
             case rel => exact ⟨_, (decide (((rd_T49 l0 x4_1).f2) > 1000000)), (by first | rfl | (simp; done) | (simp [*]; done)), H', ⟨by have := HK1.out; first | omega | exact Nat.le_refl _⟩, ⟨by (with_reducible repeat (first | apply Kd.R_alloc | apply Kd.R_drewN | apply Kd.R_drew)); exact Kd.R_mono (Kd.R_far (p := ⟨gb326, 5, none⟩) (Kd.R_far (p := ⟨gb326, 4, none⟩) (Kd.R_far (p := ⟨gb326, 3, none⟩) (Kd.R_far (p := ⟨gb326, 2, none⟩) (Kd.R_far (p := ⟨gb326, 1, none⟩) (Kd.R_far (p := ⟨gb326, 0, none⟩) (Kd.R_types HO_3.out BK326.out (by decide)) (fun _ hk => hk.2) (.int .i64 ((rd_T49 l0 x4_1).f0))) (fun _ hk => hk.2) (.int .i64 ((rd_T49 l0 x4_1).f1))) (fun _ hk => hk.2) (.int .i64 ((rd_T49 l0 x4_1).f2))) (fun _ hk => hk.2) (.int .i64 ((rd_T49 l0 x4_1).f3))) (fun _ hk => hk.2) (.int .i64 ((rd_T49 l0 x4_1).f4))) (fun _ hk => hk.2) (.int .i64 ((rd_T49 l0 x4_1).f5))) (fun _ hk => trivial)⟩, ⟨by (with_reducible repeat (first | refine blk_drewN ?_ _ | refine blk_drew ?_ | refine blk_alloc ?_ _)); refine blk_put (cs := #[.int .i64 ((rd_T49 l0 x4_1).f0), .int .i64 ((rd_T49 l0 x4_1).f1), .int .i64 ((rd_T49 l0 x4_1).f2), .int .i64 ((rd_T49 l0 x4_1).f3), .int .i64 ((rd_T49 l0 x4_1).f4), .int .i64 0]) ?_ 5 _ rfl; (with_reducible repeat (first | refine blk_drewN ?_ _ | refine blk_drew ?_ | refine blk_alloc ?_ _)); refine blk_put (cs := #[.int .i64 ((rd_T49 l0 x4_1).f0), .int .i64 ((rd_T49 l0 x4_1).f1), .int .i64 ((rd_T49 l0 x4_1).f2), .int .i64 ((rd_T49 l0 x4_1).f3), .int .i64 0, .int .i64 0]) ?_ 4 _ rfl; (with_reducible repeat (first | refine blk_drewN ?_ _ | refine blk_drew ?_ | refine blk_alloc ?_ _)); refine blk_put (cs := #[.int .i64 ((rd_T49 l0 x4_1).f0), .int .i64 ((rd_T49 l0 x4_1).f1), .int .i64 ((rd_T49 l0 x4_1).f2), .int .i64 0, .int .i64 0, .int .i64 0]) ?_ 3 _ rfl; (with_reducible repeat (first | refine blk_drewN ?_ _ | refine blk_drew ?_ | refine blk_alloc ?_ _)); refine blk_put (cs := #[.int .i64 ((rd_T49 l0 x4_1).f0), .int .i64 ((rd_T49 l0 x4_1).f1), .int .i64 0, .int .i64 0, .int .i64 0, .int .i64 0]) ?_ 2 _ rfl; (with_reducible repeat (first | refine blk_drewN ?_ _ | refine blk_drew ?_ | refine blk_alloc ?_ _)); refine blk_put (cs := #[.int .i64 ((rd_T49 l0 x4_1).f0), .int .i64 0, .int .i64 0, .int .i64 0, .int .i64 0, .int .i64 0]) ?_ 1 _ rfl; (with_reducible repeat (first | refine blk_drewN ?_ _ | refine blk_drew ?_ | refine blk_alloc ?_ _)); refine blk_put (cs := #[.int .i64 0, .int .i64 0, .int .i64 0, .int .i64 0, .int .i64 0, .int .i64 0]) ?_ 0 _ rfl; (with_reducible repeat (first | refine blk_drewN ?_ _ | refine blk_drew ?_ | refine blk_alloc ?_ _)); exact BK326.out⟩, ⟨by repeat (first | (with_reducible first | exact HB.out | apply below_alloc | apply pw_below_drewN | apply below_drew1 | refine below_set ?_ GE326.out) | exact HB.out)⟩⟩
          ·
           rw [if_neg c13] at H
           have c13b0 : (((rd_T49 l0 x4_1).f1) == 0) = false := beq_eq_false_iff_ne.mpr c13
           have c13b1 : (((rd_T49 l0 x4_1).f1) != 0) = true := bne_iff_ne.mpr c13
           (first | rw [c13b0] | (simp only [i64_w, i32_w]; rw [c13b0]) | skip)
           by_cases c25 : ((rd_T49 l0 x4_1).f1) = 1
           ·
            rw [if_pos c25] at H
            have c25b0 : (((rd_T49 l0 x4_1).f1) == 1) = true := beq_iff_eq.mpr c25
            have c25b1 : (((rd_T49 l0 x4_1).f1) != 1) = false := bne_eq_false_iff_eq.mpr c25
            clear c25
            by_cases c26 : ((rd_T49 l0 x4_1).f0) = 0
            ·
             rw [if_pos c26] at H
             have c26b0 : (((rd_T49 l0 x4_1).f0) == 0) = true := beq_iff_eq.mpr c26
             have c26b1 : (((rd_T49 l0 x4_1).f0) != 0) = false := bne_eq_false_iff_eq.mpr c26
             clear c26
             by_cases c27 : ((rd_T49 l0 x4_1).f3) = 0
             ·
              rw [if_pos c27] at H
              have c27b0 : (((rd_T49 l0 x4_1).f3) == 0) = true := beq_iff_eq.mpr c27
              have c27b1 : (((rd_T49 l0 x4_1).f3) != 0) = false := bne_eq_false_iff_eq.mpr c27
              clear c27
              by_cases c28 : ((rd_T49 l0 x4_1).f2) < 0
              ·
               rw [if_pos c28] at H
               have c28b0 : decide (((rd_T49 l0 x4_1).f2) < 0) = true := decide_eq_true c28
               clear c28
               have H' := Aside0.mk H
               clear H
               have hcz29_0 : w11.cell? ⟨gb326, 0, none⟩ = some (.int .i64 0) := (blk_cell BK326.out 0).trans rfl
               have hcz29_1 : w11.cell? ⟨gb326, 1, none⟩ = some (.int .i64 0) := (blk_cell BK326.out 1).trans rfl
               have hcz29_2 : w11.cell? ⟨gb326, 2, none⟩ = some (.int .i64 0) := (blk_cell BK326.out 2).trans rfl
               have hcz29_3 : w11.cell? ⟨gb326, 3, none⟩ = some (.int .i64 0) := (blk_cell BK326.out 3).trans rfl
               have hcz29_4 : w11.cell? ⟨gb326, 4, none⟩ = some (.int .i64 0) := (blk_cell BK326.out 4).trans rfl
               have hcz29_5 : w11.cell? ⟨gb326, 5, none⟩ = some (.int .i64 0) := (blk_cell BK326.out 5).trans rfl
               have hfz29_0 := blk_frozen BK326.out 0
               have hfz29_1 := blk_frozen BK326.out 1
               have hfz29_2 := blk_frozen BK326.out 2
               have hfz29_3 := blk_frozen BK326.out 3
               have hfz29_4 := blk_frozen BK326.out 4
               have hfz29_5 := blk_frozen BK326.out 5
               go_wp2
               go_meet
               case rel => exact ⟨_, (true), (by first | rfl | (simp; done) | (simp [*]; done)), H', ⟨by have := HK1.out; first | omega | exact Nat.le_refl _⟩, ⟨by (with_reducible repeat (first | apply Kd.R_alloc | apply Kd.R_drewN | apply Kd.R_drew)); exact Kd.R_mono (Kd.R_far (p := ⟨gb326, 5, none⟩) (Kd.R_far (p := ⟨gb326, 4, none⟩) (Kd.R_far (p := ⟨gb326, 3, none⟩) (Kd.R_far (p := ⟨gb326, 2, none⟩) (Kd.R_far (p := ⟨gb326, 1, none⟩) (Kd.R_far (p := ⟨gb326, 0, none⟩) (Kd.R_types HO_3.out BK326.out (by decide)) (fun _ hk => hk.2) (.int .i64 ((rd_T49 l0 x4_1).f0))) (fun _ hk => hk.2) (.int .i64 ((rd_T49 l0 x4_1).f1))) (fun _ hk => hk.2) (.int .i64 ((rd_T49 l0 x4_1).f2))) (fun _ hk => hk.2) (.int .i64 ((rd_T49 l0 x4_1).f3))) (fun _ hk => hk.2) (.int .i64 ((rd_T49 l0 x4_1).f4))) (fun _ hk => hk.2) (.int .i64 ((rd_T49 l0 x4_1).f5))) (fun _ hk => trivial)⟩, ⟨by (with_reducible repeat (first | refine blk_drewN ?_ _ | refine blk_drew ?_ | refine blk_alloc ?_ _)); refine blk_put (cs := #[.int .i64 ((rd_T49 l0 x4_1).f0), .int .i64 ((rd_T49 l0 x4_1).f1), .int .i64 ((rd_T49 l0 x4_1).f2), .int .i64 ((rd_T49 l0 x4_1).f3), .int .i64 ((rd_T49 l0 x4_1).f4), .int .i64 0]) ?_ 5 _ rfl; (with_reducible repeat (first | refine blk_drewN ?_ _ | refine blk_drew ?_ | refine blk_alloc ?_ _)); refine blk_put (cs := #[.int .i64 ((rd_T49 l0 x4_1).f0), .int .i64 ((rd_T49 l0 x4_1).f1), .int .i64 ((rd_T49 l0 x4_1).f2), .int .i64 ((rd_T49 l0 x4_1).f3), .int .i64 0, .int .i64 0]) ?_ 4 _ rfl; (with_reducible repeat (first | refine blk_drewN ?_ _ | refine blk_drew ?_ | refine blk_alloc ?_ _)); refine blk_put (cs := #[.int .i64 ((rd_T49 l0 x4_1).f0), .int .i64 ((rd_T49 l0 x4_1).f1), .int .i64 ((rd_T49 l0 x4_1).f2), .int .i64 0, .int .i64 0, .int .i64 0]) ?_ 3 _ rfl; (with_reducible repeat (first | refine blk_drewN ?_ _ | refine blk_drew ?_ | refine blk_alloc ?_ _)); refine blk_put (cs := #[.int .i64 ((rd_T49 l0 x4_1).f0), .int .i64 ((rd_T49 l0 x4_1).f1), .int .i64 0, .int .i64 0, .int .i64 0, .int .i64 0]) ?_ 2 _ rfl; (with_reducible repeat (first | refine blk_drewN ?_ _ | refine blk_drew ?_ | refine blk_alloc ?_ _)); refine blk_put (cs := #[.int .i64 ((rd_T49 l0 x4_1).f0), .int .i64 0, .int .i64 0, .int .i64 0, .int .i64 0, .int .i64 0]) ?_ 1 _ rfl; (with_reducible repeat (first | refine blk_drewN ?_ _ | refine blk_drew ?_ | refine blk_alloc ?_ _)); refine blk_put (cs := #[.int .i64 0, .int .i64 0, .int .i64 0, .int .i64 0, .int .i64 0, .int .i64 0]) ?_ 0 _ rfl; (with_reducible repeat (first | refine blk_drewN ?_ _ | refine blk_drew ?_ | refine blk_alloc ?_ _)); exact BK326.out⟩, ⟨by repeat (first | (with_reducible first | exact HB.out | apply below_alloc | apply pw_below_drewN | apply below_drew1 | refine below_set ?_ GE326.out) | exact HB.out)⟩⟩
              ·
               rw [if_neg c28] at H
               have c28b0 : decide (((rd_T49 l0 x4_1).f2) < 0) = false := decide_eq_false c28
               clear c28
               have H' := Aside0.mk H
               clear H
               have hcz30_0 : w11.cell? ⟨gb326, 0, none⟩ = some (.int .i64 0) := (blk_cell BK326.out 0).trans rfl
               have hcz30_1 : w11.cell? ⟨gb326, 1, none⟩ = some (.int .i64 0) := (blk_cell BK326.out 1).trans rfl
               have hcz30_2 : w11.cell? ⟨gb326, 2, none⟩ = some (.int .i64 0) := (blk_cell BK326.out 2).trans rfl
               have hcz30_3 : w11.cell? ⟨gb326, 3, none⟩ = some (.int .i64 0) := (blk_cell BK326.out 3).trans rfl
               have hcz30_4 : w11.cell? ⟨gb326, 4, none⟩ = some (.int .i64 0) := (blk_cell BK326.out 4).trans rfl
               have hcz30_5 : w11.cell? ⟨gb326, 5, none⟩ = some (.int .i64 0) := (blk_cell BK326.out 5).trans rfl
               have hfz30_0 := blk_frozen BK326.out 0
               have hfz30_1 := blk_frozen BK326.out 1
               have hfz30_2 := blk_frozen BK326.out 2
               have hfz30_3 := blk_frozen BK326.out 3
               have hfz30_4 := blk_frozen BK326.out 4
               have hfz30_5 := blk_frozen BK326.out 5
               go_wp2
               go_meet
               case rel => exact ⟨_, (decide (((rd_T49 l0 x4_1).f2) > 1000000)), (by first | rfl | (simp; done) | (simp [*]; done)), H', ⟨by have := HK1.out; first | omega | exact Nat.le_refl _⟩, ⟨by (with_reducible repeat (first | apply Kd.R_alloc | apply Kd.R_drewN | apply Kd.R_drew)); exact Kd.R_mono (Kd.R_far (p := ⟨gb326, 5, none⟩) (Kd.R_far (p := ⟨gb326, 4, none⟩) (Kd.R_far (p := ⟨gb326, 3, none⟩) (Kd.R_far (p := ⟨gb326, 2, none⟩) (Kd.R_far (p := ⟨gb326, 1, none⟩) (Kd.R_far (p := ⟨gb326, 0, none⟩) (Kd.R_types HO_3.out BK326.out (by decide)) (fun _ hk => hk.2) (.int .i64 ((rd_T49 l0 x4_1).f0))) (fun _ hk => hk.2) (.int .i64 ((rd_T49 l0 x4_1).f1))) (fun _ hk => hk.2) (.int .i64 ((rd_T49 l0 x4_1).f2))) (fun _ hk => hk.2) (.int .i64 ((rd_T49 l0 x4_1).f3))) (fun _ hk => hk.2) (.int .i64 ((rd_T49 l0 x4_1).f4))) (fun _ hk => hk.2) (.int .i64 ((rd_T49 l0 x4_1).f5))) (fun _ hk => trivial)⟩, ⟨by (with_reducible repeat (first | refine blk_drewN ?_ _ | refine blk_drew ?_ | refine blk_alloc ?_ _)); refine blk_put (cs := #[.int .i64 ((rd_T49 l0 x4_1).f0), .int .i64 ((rd_T49 l0 x4_1).f1), .int .i64 ((rd_T49 l0 x4_1).f2), .int .i64 ((rd_T49 l0 x4_1).f3), .int .i64 ((rd_T49 l0 x4_1).f4), .int .i64 0]) ?_ 5 _ rfl; (with_reducible repeat (first | refine blk_drewN ?_ _ | refine blk_drew ?_ | refine blk_alloc ?_ _)); refine blk_put (cs := #[.int .i64 ((rd_T49 l0 x4_1).f0), .int .i64 ((rd_T49 l0 x4_1).f1), .int .i64 ((rd_T49 l0 x4_1).f2), .int .i64 ((rd_T49 l0 x4_1).f3), .int .i64 0, .int .i64 0]) ?_ 4 _ rfl; (with_reducible repeat (first | refine blk_drewN ?_ _ | refine blk_drew ?_ | refine blk_alloc ?_ _)); refine blk_put (cs := #[.int .i64 ((rd_T49 l0 x4_1).f0), .int .i64 ((rd_T49 l0 x4_1).f1), .int .i64 ((rd_T49 l0 x4_1).f2), .int .i64 0, .int .i64 0, .int .i64 0]) ?_ 3 _ rfl; (with_reducible repeat (first | refine blk_drewN ?_ _ | refine blk_drew ?_ | refine blk_alloc ?_ _)); refine blk_put (cs := #[.int .i64 ((rd_T49 l0 x4_1).f0), .int .i64 ((rd_T49 l0 x4_1).f1), .int .i64 0, .int .i64 0, .int .i64 0, .int .i64 0]) ?_ 2 _ rfl; (with_reducible repeat (first | refine blk_drewN ?_ _ | refine blk_drew ?_ | refine blk_alloc ?_ _)); refine blk_put (cs := #[.int .i64 ((rd_T49 l0 x4_1).f0), .int .i64 0, .int .i64 0, .int .i64 0, .int .i64 0, .int .i64 0]) ?_ 1 _ rfl; (with_reducible repeat (first | refine blk_drewN ?_ _ | refine blk_drew ?_ | refine blk_alloc ?_ _)); refine blk_put (cs := #[.int .i64 0, .int .i64 0, .int .i64 0, .int .i64 0, .int .i64 0, .int .i64 0]) ?_ 0 _ rfl; (with_reducible repeat (first | refine blk_drewN ?_ _ | refine blk_drew ?_ | refine blk_alloc ?_ _)); exact BK326.out⟩, ⟨by repeat (first | (with_reducible first | exact HB.out | apply below_alloc | apply pw_below_drewN | apply below_drew1 | refine below_set ?_ GE326.out) | exact HB.out)⟩⟩
             ·
              rw [if_neg c27] at H
              have c27b0 : (((rd_T49 l0 x4_1).f3) == 0) = false := beq_eq_false_iff_ne.mpr c27
              have c27b1 : (((rd_T49 l0 x4_1).f3) != 0) = true := bne_iff_ne.mpr c27
              have H' := Aside0.mk H
              clear H
              have hcz31_0 : w11.cell? ⟨gb326, 0, none⟩ = some (.int .i64 0) := (blk_cell BK326.out 0).trans rfl
              have hcz31_1 : w11.cell? ⟨gb326, 1, none⟩ = some (.int .i64 0) := (blk_cell BK326.out 1).trans rfl
              have hcz31_2 : w11.cell? ⟨gb326, 2, none⟩ = some (.int .i64 0) := (blk_cell BK326.out 2).trans rfl
              have hcz31_3 : w11.cell? ⟨gb326, 3, none⟩ = some (.int .i64 0) := (blk_cell BK326.out 3).trans rfl
              have hcz31_4 : w11.cell? ⟨gb326, 4, none⟩ = some (.int .i64 0) := (blk_cell BK326.out 4).trans rfl
              have hcz31_5 : w11.cell? ⟨gb326, 5, none⟩ = some (.int .i64 0) := (blk_cell BK326.out 5).trans rfl
              have hfz31_0 := blk_frozen BK326.out 0
              have hfz31_1 := blk_frozen BK326.out 1
              have hfz31_2 := blk_frozen BK326.out 2
              have hfz31_3 := blk_frozen BK326.out 3
              have hfz31_4 := blk_frozen BK326.out 4
              have hfz31_5 := blk_frozen BK326.out 5
              go_wp2
              go_meet
              case rel => exact ⟨_, (true), (by first | rfl | (simp; done) | (simp [*]; done)), H', ⟨by have := HK1.out; first | omega | exact Nat.le_refl _⟩, ⟨by (with_reducible repeat (first | apply Kd.R_alloc | apply Kd.R_drewN | apply Kd.R_drew)); exact Kd.R_mono (Kd.R_far (p := ⟨gb326, 5, none⟩) (Kd.R_far (p := ⟨gb326, 4, none⟩) (Kd.R_far (p := ⟨gb326, 3, none⟩) (Kd.R_far (p := ⟨gb326, 2, none⟩) (Kd.R_far (p := ⟨gb326, 1, none⟩) (Kd.R_far (p := ⟨gb326, 0, none⟩) (Kd.R_types HO_3.out BK326.out (by decide)) (fun _ hk => hk.2) (.int .i64 ((rd_T49 l0 x4_1).f0))) (fun _ hk => hk.2) (.int .i64 ((rd_T49 l0 x4_1).f1))) (fun _ hk => hk.2) (.int .i64 ((rd_T49 l0 x4_1).f2))) (fun _ hk => hk.2) (.int .i64 ((rd_T49 l0 x4_1).f3))) (fun _ hk => hk.2) (.int .i64 ((rd_T49 l0 x4_1).f4))) (fun _ hk => hk.2) (.int .i64 ((rd_T49 l0 x4_1).f5))) (fun _ hk => trivial)⟩, ⟨by (with_reducible repeat (first | refine blk_drewN ?_ _ | refine blk_drew ?_ | refine blk_alloc ?_ _)); refine blk_put (cs := #[.int .i64 ((rd_T49 l0 x4_1).f0), .int .i64 ((rd_T49 l0 x4_1).f1), .int .i64 ((rd_T49 l0 x4_1).f2), .int .i64 ((rd_T49 l0 x4_1).f3), .int .i64 ((rd_T49 l0 x4_1).f4), .int .i64 0]) ?_ 5 _ rfl; (with_reducible repeat (first | refine blk_drewN ?_ _ | refine blk_drew ?_ | refine blk_alloc ?_ _)); refine blk_put (cs := #[.int .i64 ((rd_T49 l0 x4_1).f0), .int .i64 ((rd_T49 l0 x4_1).f1), .int .i64 ((rd_T49 l0 x4_1).f2), .int .i64 ((rd_T49 l0 x4_1).f3), .int .i64 0, .int .i64 0]) ?_ 4 _ rfl; (with_reducible repeat (first | refine blk_drewN ?_ _ | refine blk_drew ?_ | refine blk_alloc ?_ _)); refine blk_put (cs := #[.int .i64 ((rd_T49 l0 x4_1).f0), .int .i64 ((rd_T49 l0 x4_1).f1), .int .i64 ((rd_T49 l0 x4_1).f2), .int .i64 0, .int .i64 0, .int .i64 0]) ?_ 3 _ rfl; (with_reducible repeat (first | refine blk_drewN ?_ _ | refine blk_drew ?_ | refine blk_alloc ?_ _)); refine blk_put (cs := #[.int .i64 ((rd_T49 l0 x4_1).f0), .int .i64 ((rd_T49 l0 x4_1).f1), .int .i64 0, .int .i64 0, .int .i64 0, .int .i64 0]) ?_ 2 _ rfl; (with_reducible repeat (first | refine blk_drewN ?_ _ | refine blk_drew ?_ | refine blk_alloc ?_ _)); refine blk_put (cs := #[.int .i64 ((rd_T49 l0 x4_1).f0), .int .i64 0, .int .i64 0, .int .i64 0, .int .i64 0, .int .i64 0]) ?_ 1 _ rfl; (with_reducible repeat (first | refine blk_drewN ?_ _ | refine blk_drew ?_ | refine blk_alloc ?_ _)); refine blk_put (cs := #[.int .i64 0, .int .i64 0, .int .i64 0, .int .i64 0, .int .i64 0, .int .i64 0]) ?_ 0 _ rfl; (with_reducible repeat (first | refine blk_drewN ?_ _ | refine blk_drew ?_ | refine blk_alloc ?_ _)); exact BK326.out⟩, ⟨by repeat (first | (with_reducible first | exact HB.out | apply below_alloc | apply pw_below_drewN | apply below_drew1 | refine below_set ?_ GE326.out) | exact HB.out)⟩⟩
            ·
             rw [if_neg c26] at H
             have c26b0 : (((rd_T49 l0 x4_1).f0) == 0) = false := beq_eq_false_iff_ne.mpr c26
             have c26b1 : (((rd_T49 l0 x4_1).f0) != 0) = true := bne_iff_ne.mpr c26
             have H' := Aside0.mk H
             clear H
             have hcz32_0 : w11.cell? ⟨gb326, 0, none⟩ = some (.int .i64 0) := (blk_cell BK326.out 0).trans rfl
             have hcz32_1 : w11.cell? ⟨gb326, 1, none⟩ = some (.int .i64 0) := (blk_cell BK326.out 1).trans rfl
             have hcz32_2 : w11.cell? ⟨gb326, 2, none⟩ = some (.int .i64 0) := (blk_cell BK326.out 2).trans rfl
             have hcz32_3 : w11.cell? ⟨gb326, 3, none⟩ = some (.int .i64 0) := (blk_cell BK326.out 3).trans rfl
             have hcz32_4 : w11.cell? ⟨gb326, 4, none⟩ = some (.int .i64 0) := (blk_cell BK326.out 4).trans rfl
             have hcz32_5 : w11.cell? ⟨gb326, 5, none⟩ = some (.int .i64 0) := (blk_cell BK326.out 5).trans rfl
             have hfz32_0 := blk_frozen BK326.out 0
             have hfz32_1 := blk_frozen BK326.out 1
             have hfz32_2 := blk_frozen BK326.out 2
             have hfz32_3 := blk_frozen BK326.out 3
             have hfz32_4 := blk_frozen BK326.out 4
             have hfz32_5 := blk_frozen BK326.out 5
             go_wp2
             go_meet
             case rel => exact ⟨_, (true), (by first | rfl | (simp; done) | (simp [*]; done)), H', ⟨by have := HK1.out; first | omega | exact Nat.le_refl _⟩, ⟨by (with_reducible repeat (first | apply Kd.R_alloc | apply Kd.R_drewN | apply Kd.R_drew)); exact Kd.R_mono (Kd.R_far (p := ⟨gb326, 5, none⟩) (Kd.R_far (p := ⟨gb326, 4, none⟩) (Kd.R_far (p := ⟨gb326, 3, none⟩) (Kd.R_far (p := ⟨gb326, 2, none⟩) (Kd.R_far (p := ⟨gb326, 1, none⟩) (Kd.R_far (p := ⟨gb326, 0, none⟩) (Kd.R_types HO_3.out BK326.out (by decide)) (fun _ hk => hk.2) (.int .i64 ((rd_T49 l0 x4_1).f0))) (fun _ hk => hk.2) (.int .i64 ((rd_T49 l0 x4_1).f1))) (fun _ hk => hk.2) (.int .i64 ((rd_T49 l0 x4_1).f2))) (fun _ hk => hk.2) (.int .i64 ((rd_T49 l0 x4_1).f3))) (fun _ hk => hk.2) (.int .i64 ((rd_T49 l0 x4_1).f4))) (fun _ hk => hk.2) (.int .i64 ((rd_T49 l0 x4_1).f5))) (fun _ hk => trivial)⟩, ⟨by (with_reducible repeat (first | refine blk_drewN ?_ _ | refine blk_drew ?_ | refine blk_alloc ?_ _)); refine blk_put (cs := #[.int .i64 ((rd_T49 l0 x4_1).f0), .int .i64 ((rd_T49 l0 x4_1).f1), .int .i64 ((rd_T49 l0 x4_1).f2), .int .i64 ((rd_T49 l0 x4_1).f3), .int .i64 ((rd_T49 l0 x4_1).f4), .int .i64 0]) ?_ 5 _ rfl; (with_reducible repeat (first | refine blk_drewN ?_ _ | refine blk_drew ?_ | refine blk_alloc ?_ _)); refine blk_put (cs := #[.int .i64 ((rd_T49 l0 x4_1).f0), .int .i64 ((rd_T49 l0 x4_1).f1), .int .i64 ((rd_T49 l0 x4_1).f2), .int .i64 ((rd_T49 l0 x4_1).f3), .int .i64 0, .int .i64 0]) ?_ 4 _ rfl; (with_reducible repeat (first | refine blk_drewN ?_ _ | refine blk_drew ?_ | refine blk_alloc ?_ _)); refine blk_put (cs := #[.int .i64 ((rd_T49 l0 x4_1).f0), .int .i64 ((rd_T49 l0 x4_1).f1), .int .i64 ((rd_T49 l0 x4_1).f2), .int .i64 0, .int .i64 0, .int .i64 0]) ?_ 3 _ rfl; (with_reducible repeat (first | refine blk_drewN ?_ _ | refine blk_drew ?_ | refine blk_alloc ?_ _)); refine blk_put (cs := #[.int .i64 ((rd_T49 l0 x4_1).f0), .int .i64 ((rd_T49 l0 x4_1).f1), .int .i64 0, .int .i64 0, .int .i64 0, .int .i64 0]) ?_ 2 _ rfl; (with_reducible repeat (first | refine blk_drewN ?_ _ | refine blk_drew ?_ | refine blk_alloc ?_ _)); refine blk_put (cs := #[.int .i64 ((rd_T49 l0 x4_1).f0), .int .i64 0, .int .i64 0, .int .i64 0, .int .i64 0, .int .i64 0]) ?_ 1 _ rfl; (with_reducible repeat (first | refine blk_drewN ?_ _ | refine blk_drew ?_ | refine blk_alloc ?_ _)); refine blk_put (cs := #[.int .i64 0, .int .i64 0, .int .i64 0, .int .i64 0, .int .i64 0, .int .i64 0]) ?_ 0 _ rfl; (with_reducible repeat (first | refine blk_drewN ?_ _ | refine blk_drew ?_ | refine blk_alloc ?_ _)); exact BK326.out⟩, ⟨by repeat (first | (with_reducible first | exact HB.out | apply below_alloc | apply pw_below_drewN | apply below_drew1 | refine below_set ?_ GE326.out) | exact HB.out)⟩⟩
           ·
            rw [if_neg c25] at H
            have c25b0 : (((rd_T49 l0 x4_1).f1) == 1) = false := beq_eq_false_iff_ne.mpr c25
            have c25b1 : (((rd_T49 l0 x4_1).f1) != 1) = true := bne_iff_ne.mpr c25
            have H' := Aside0.mk H
            clear H
            have hcz33_0 : w11.cell? ⟨gb326, 0, none⟩ = some (.int .i64 0) := (blk_cell BK326.out 0).trans rfl
            have hcz33_1 : w11.cell? ⟨gb326, 1, none⟩ = some (.int .i64 0) := (blk_cell BK326.out 1).trans rfl
            have hcz33_2 : w11.cell? ⟨gb326, 2, none⟩ = some (.int .i64 0) := (blk_cell BK326.out 2).trans rfl
            have hcz33_3 : w11.cell? ⟨gb326, 3, none⟩ = some (.int .i64 0) := (blk_cell BK326.out 3).trans rfl
            have hcz33_4 : w11.cell? ⟨gb326, 4, none⟩ = some (.int .i64 0) := (blk_cell BK326.out 4).trans rfl
            have hcz33_5 : w11.cell? ⟨gb326, 5, none⟩ = some (.int .i64 0) := (blk_cell BK326.out 5).trans rfl
            have hfz33_0 := blk_frozen BK326.out 0
            have hfz33_1 := blk_frozen BK326.out 1
            have hfz33_2 := blk_frozen BK326.out 2
            have hfz33_3 := blk_frozen BK326.out 3
            have hfz33_4 := blk_frozen BK326.out 4
            have hfz33_5 := blk_frozen BK326.out 5
            go_wp2
            go_meet
            case rel => exact ⟨_, (true), (by first | rfl | (simp; done) | (simp [*]; done)), H', ⟨by have := HK1.out; first | omega | exact Nat.le_refl _⟩, ⟨by (with_reducible repeat (first | apply Kd.R_alloc | apply Kd.R_drewN | apply Kd.R_drew)); exact Kd.R_mono (Kd.R_far (p := ⟨gb326, 5, none⟩) (Kd.R_far (p := ⟨gb326, 4, none⟩) (Kd.R_far (p := ⟨gb326, 3, none⟩) (Kd.R_far (p := ⟨gb326, 2, none⟩) (Kd.R_far (p := ⟨gb326, 1, none⟩) (Kd.R_far (p := ⟨gb326, 0, none⟩) (Kd.R_types HO_3.out BK326.out (by decide)) (fun _ hk => hk.2) (.int .i64 ((rd_T49 l0 x4_1).f0))) (fun _ hk => hk.2) (.int .i64 ((rd_T49 l0 x4_1).f1))) (fun _ hk => hk.2) (.int .i64 ((rd_T49 l0 x4_1).f2))) (fun _ hk => hk.2) (.int .i64 ((rd_T49 l0 x4_1).f3))) (fun _ hk => hk.2) (.int .i64 ((rd_T49 l0 x4_1).f4))) (fun _ hk => hk.2) (.int .i64 ((rd_T49 l0 x4_1).f5))) (fun _ hk => trivial)⟩, ⟨by (with_reducible repeat (first | refine blk_drewN ?_ _ | refine blk_drew ?_ | refine blk_alloc ?_ _)); refine blk_put (cs := #[.int .i64 ((rd_T49 l0 x4_1).f0), .int .i64 ((rd_T49 l0 x4_1).f1), .int .i64 ((rd_T49 l0 x4_1).f2), .int .i64 ((rd_T49 l0 x4_1).f3), .int .i64 ((rd_T49 l0 x4_1).f4), .int .i64 0]) ?_ 5 _ rfl; (with_reducible repeat (first | refine blk_drewN ?_ _ | refine blk_drew ?_ | refine blk_alloc ?_ _)); refine blk_put (cs := #[.int .i64 ((rd_T49 l0 x4_1).f0), .int .i64 ((rd_T49 l0 x4_1).f1), .int .i64 ((rd_T49 l0 x4_1).f2), .int .i64 ((rd_T49 l0 x4_1).f3), .int .i64 0, .int .i64 0]) ?_ 4 _ rfl; (with_reducible repeat (first | refine blk_drewN ?_ _ | refine blk_drew ?_ | refine blk_alloc ?_ _)); refine blk_put (cs := #[.int .i64 ((rd_T49 l0 x4_1).f0), .int .i64 ((rd_T49 l0 x4_1).f1), .int .i64 ((rd_T49 l0 x4_1).f2), .int .i64 0, .int .i64 0, .int .i64 0]) ?_ 3 _ rfl; (with_reducible repeat (first | refine blk_drewN ?_ _ | refine blk_drew ?_ | refine blk_alloc ?_ _)); refine blk_put (cs := #[.int .i64 ((rd_T49 l0 x4_1).f0), .int .i64 ((rd_T49 l0 x4_1).f1), .int .i64 0, .int .i64 0, .int .i64 0, .int .i64 0]) ?_ 2 _ rfl; (with_reducible repeat (first | refine blk_drewN ?_ _ | refine blk_drew ?_ | refine blk_alloc ?_ _)); refine blk_put (cs := #[.int .i64 ((rd_T49 l0 x4_1).f0), .int .i64 0, .int .i64 0, .int .i64 0, .int .i64 0, .int .i64 0]) ?_ 1 _ rfl; (with_reducible repeat (first | refine blk_drewN ?_ _ | refine blk_drew ?_ | refine blk_alloc ?_ _)); refine blk_put (cs := #[.int .i64 0, .int .i64 0, .int .i64 0, .int .i64 0, .int .i64 0, .int .i64 0]) ?_ 0 _ rfl; (with_reducible repeat (first | refine blk_drewN ?_ _ | refine blk_drew ?_ | refine blk_alloc ?_ _)); exact BK326.out⟩, ⟨by repeat (first | (with_reducible first | exact HB.out | apply below_alloc | apply pw_below_drewN | apply below_drew1 | refine below_set ?_ GE326.out) | exact HB.out)⟩⟩
         case rest =>
          clear HC10
          try clear c1
          try clear c2
          try clear c2b0
          try clear c2b1
          try clear p2
          try clear c3
          try clear c3b0
          try clear c3b1
          try clear c3b2
          try clear p3
          try clear q3
          try clear hx3
          try clear c4
          try clear c4b0
          try clear c4b1
          try clear c5
          try clear c5b0
          try clear c5b1
          try clear c8
          try clear c8b0
          try clear c9
          try clear c9b0
          try clear c13
          try clear c13b0
          try clear c13b1
          try clear c14
          try clear c14b0
          try clear c14b1
          try clear c15
          try clear c15b0
          try clear c15b1
          try clear c16
          try clear c16b0
          try clear c16b1
          try clear c17
          try clear c17b0
          try clear c22
          try clear c22b0
          try clear c25
          try clear c25b0
          try clear c25b1
          try clear c26
          try clear c26b0
          try clear c26b1
          try clear c27
          try clear c27b0
          try clear c27b1
          try clear c28
          try clear c28b0
          try clear p32
          try clear q32
          try clear hx32
          try clear hcz12_0
          try clear hcz12_1
          try clear hcz12_2
          try clear hcz12_3
          try clear hcz12_4
          try clear hcz12_5
          try clear hcz18_0
          try clear hcz18_1
          try clear hcz18_2
          try clear hcz18_3
          try clear hcz18_4
          try clear hcz18_5
          try clear hcz19_0
          try clear hcz19_1
          try clear hcz19_2
          try clear hcz19_3
          try clear hcz19_4
          try clear hcz19_5
          try clear hcz20_0
          try clear hcz20_1
          try clear hcz20_2
          try clear hcz20_3
          try clear hcz20_4
          try clear hcz20_5
          try clear hcz21_0
          try clear hcz21_1
          try clear hcz21_2
          try clear hcz21_3
          try clear hcz21_4
          try clear hcz21_5
          try clear hcz23_0
          try clear hcz23_1
          try clear hcz23_2
          try clear hcz23_3
          try clear hcz23_4
          try clear hcz23_5
          try clear hcz24_0
          try clear hcz24_1
          try clear hcz24_2
          try clear hcz24_3
          try clear hcz24_4
          try clear hcz24_5
          try clear hcz29_0
          try clear hcz29_1
          try clear hcz29_2
          try clear hcz29_3
          try clear hcz29_4
          try clear hcz29_5
          try clear hcz30_0
          try clear hcz30_1
          try clear hcz30_2
          try clear hcz30_3
          try clear hcz30_4
          try clear hcz30_5
          try clear hcz31_0
          try clear hcz31_1
          try clear hcz31_2
          try clear hcz31_3
          try clear hcz31_4
          try clear hcz31_5
          try clear hcz32_0
          try clear hcz32_1
          try clear hcz32_2
          try clear hcz32_3
          try clear hcz32_4
          try clear hcz32_5
          try clear hcz33_0
          try clear hcz33_1
          try clear hcz33_2
          try clear hcz33_3
          try clear hcz33_4
          try clear hcz33_5
          try clear hfz12_0
          try clear hfz12_1
          try clear hfz12_2
          try clear hfz12_3
          try clear hfz12_4
          try clear hfz12_5
          try clear hfz18_0
          try clear hfz18_1
          try clear hfz18_2
          try clear hfz18_3
          try clear hfz18_4
          try clear hfz18_5
          try clear hfz19_0
          try clear hfz19_1
          try clear hfz19_2
          try clear hfz19_3
          try clear hfz19_4
          try clear hfz19_5
          try clear hfz20_0
          try clear hfz20_1
          try clear hfz20_2
          try clear hfz20_3
          try clear hfz20_4
          try clear hfz20_5
          try clear hfz21_0
          try clear hfz21_1
          try clear hfz21_2
          try clear hfz21_3
          try clear hfz21_4
          try clear hfz21_5
          try clear hfz23_0
          try clear hfz23_1
          try clear hfz23_2
          try clear hfz23_3
          try clear hfz23_4
          try clear hfz23_5
          try clear hfz24_0
          try clear hfz24_1
          try clear hfz24_2
          try clear hfz24_3
          try clear hfz24_4
          try clear hfz24_5
          try clear hfz29_0
          try clear hfz29_1
          try clear hfz29_2
          try clear hfz29_3
          try clear hfz29_4
          try clear hfz29_5
          try clear hfz30_0
          try clear hfz30_1
          try clear hfz30_2
          try clear hfz30_3
          try clear hfz30_4
          try clear hfz30_5
          try clear hfz31_0
          try clear hfz31_1
          try clear hfz31_2
          try clear hfz31_3
          try clear hfz31_4
          try clear hfz31_5
          try clear hfz32_0
          try clear hfz32_1
          try clear hfz32_2
          try clear hfz32_3
          try clear hfz32_4
          try clear hfz32_5
          try clear hfz33_0
          try clear hfz33_1
          try clear hfz33_2
          try clear hfz33_3
          try clear hfz33_4
          try clear hfz33_5
          try clear hx325_0
          try clear hx325_1
          try clear hx325_2
          try clear hx325_3
          try clear hx325_4
          try clear hx325_5
          try clear p2
          try clear p325
          try clear q325
          obtain ⟨kq, x58_9, rfl, HA, HJ9, HO_3, BK326, HB⟩ := hcut
          cases kq with
          | zero => exact absurd HA.out (by simp [larchref17_Check.j1])
          | succ kj9 =>
           have H := HA.out
           clear HA
           simp only [larchref17_Check.j1] at H
           by_cases c34 : x58_9 = true
           ·
            subst c34
            have H1 : (some 3) = some r := by rw [if_pos rfl] at H; exact H
            clear H
            have H := H1
            clear H1
            obtain rfl := Option.some.inj H
            go_wp2
            go_ret
            exact ⟨by first | rfl | (simp [errW_none, errW_some] <;> rfl) | (simp [*, errW_none, errW_some] <;> rfl), by repeat (first | (with_reducible first | exact HB.out | apply below_alloc | apply pw_below_drewN | apply below_drew1 | refine below_set ?_ GE326.out) | exact HB.out)⟩
           ·
            replace c34 := Bool.eq_false_iff.mpr c34
            subst c34
            have H1 : ((larchref17_leaf.f ((rd_T49 l0 x4_1).f0) ((rd_T49 l0 x4_1).f1) ((rd_T49 l0 x4_1).f2) ((rd_T49 l0 x4_1).f3) ((rd_T49 l0 x4_1).f4) ((rd_T49 l0 x4_1).f5)).bind fun t327 => (if t327 = true then (larchref17_Check.l0 kj9 l0 x3_1 (wrap64 (x4_1 + 1))) else (if ((rd_T49 l0 x4_1).f3) = 0 then (if ((rd_T49 l0 x4_1).f4) < 1 then (some 3) else (if ((rd_T49 l0 x4_1).f4) ≥ (l0.length : Int) then (some 3) else (if ((rd_T49 l0 x4_1).f5) < 1 then (some 3) else (if ((rd_T49 l0 x4_1).f5) ≥ (l0.length : Int) then (some 3) else (if ((rd_T49 l0 x4_1).f4) = ((rd_T49 l0 x4_1).f5) then (some 3) else (if 0 ≤ ((rd_T49 l0 x4_1).f4) then (if ((rd_T49 l0 x4_1).f4) < (x3_1.length : Int) then ((some (x3_1.set (((rd_T49 l0 x4_1).f4) : Int).toNat (wrap64 ((rd x3_1 ((rd_T49 l0 x4_1).f4)) + 1)) : List Int)).bind fun y329 => (if 0 ≤ ((rd_T49 l0 x4_1).f5) then (if ((rd_T49 l0 x4_1).f5) < (x3_1.length : Int) then (larchref17_Check.l0 kj9 l0 (y329.set (((rd_T49 l0 x4_1).f5) : Int).toNat (wrap64 ((rd y329 ((rd_T49 l0 x4_1).f5)) + 1))) (wrap64 (x4_1 + 1))) else (none)) else (none))) else (none)) else (none))))))) else (some 3)))) = some r := by rw [if_neg (show ¬ (false = true) by decide)] at H; exact H
            clear H
            have H := H1
            clear H1
            replace H := Option.bind_eq_some_iff.mp H
            obtain ⟨t327, A350, H⟩ := H
            replace H : (if t327 = true then (larchref17_Check.l0 kj9 l0 x3_1 (wrap64 (x4_1 + 1))) else (if ((rd_T49 l0 x4_1).f3) = 0 then (if ((rd_T49 l0 x4_1).f4) < 1 then (some 3) else (if ((rd_T49 l0 x4_1).f4) ≥ (l0.length : Int) then (some 3) else (if ((rd_T49 l0 x4_1).f5) < 1 then (some 3) else (if ((rd_T49 l0 x4_1).f5) ≥ (l0.length : Int) then (some 3) else (if ((rd_T49 l0 x4_1).f4) = ((rd_T49 l0 x4_1).f5) then (some 3) else (if 0 ≤ ((rd_T49 l0 x4_1).f4) then (if ((rd_T49 l0 x4_1).f4) < (x3_1.length : Int) then ((some (x3_1.set (((rd_T49 l0 x4_1).f4) : Int).toNat (wrap64 ((rd x3_1 ((rd_T49 l0 x4_1).f4)) + 1)) : List Int)).bind fun y329 => (if 0 ≤ ((rd_T49 l0 x4_1).f5) then (if ((rd_T49 l0 x4_1).f5) < (x3_1.length : Int) then (larchref17_Check.l0 kj9 l0 (y329.set (((rd_T49 l0 x4_1).f5) : Int).toNat (wrap64 ((rd y329 ((rd_T49 l0 x4_1).f5)) + 1))) (wrap64 (x4_1 + 1))) else (none)) else (none))) else (none)) else (none))))))) else (some 3))) = some r := H
            have A35 := Aside0.mk A350
            clear A350
            by_cases c36 : t327 = true
            ·
             subst c36
             have H1 : (larchref17_Check.l0 kj9 l0 x3_1 (wrap64 (x4_1 + 1))) = some r := by rw [if_pos rfl] at H; exact H
             clear H
             have H := H1
             clear H1
             have H' := Aside0.mk H
             clear H
             have hcz37_0 : wc.cell? ⟨gb326, 0, none⟩ = some (.int .i64 ((rd_T49 l0 x4_1).f0)) := (blk_cell BK326.out 0).trans rfl
             have hcz37_1 : wc.cell? ⟨gb326, 1, none⟩ = some (.int .i64 ((rd_T49 l0 x4_1).f1)) := (blk_cell BK326.out 1).trans rfl
             have hcz37_2 : wc.cell? ⟨gb326, 2, none⟩ = some (.int .i64 ((rd_T49 l0 x4_1).f2)) := (blk_cell BK326.out 2).trans rfl
             have hcz37_3 : wc.cell? ⟨gb326, 3, none⟩ = some (.int .i64 ((rd_T49 l0 x4_1).f3)) := (blk_cell BK326.out 3).trans rfl
             have hcz37_4 : wc.cell? ⟨gb326, 4, none⟩ = some (.int .i64 ((rd_T49 l0 x4_1).f4)) := (blk_cell BK326.out 4).trans rfl
             have hcz37_5 : wc.cell? ⟨gb326, 5, none⟩ = some (.int .i64 ((rd_T49 l0 x4_1).f5)) := (blk_cell BK326.out 5).trans rfl
             have hfz37_0 := blk_frozen BK326.out 0
             have hfz37_1 := blk_frozen BK326.out 1
             have hfz37_2 := blk_frozen BK326.out 2
             have hfz37_3 := blk_frozen BK326.out 3
             have hfz37_4 := blk_frozen BK326.out 4
             have hfz37_5 := blk_frozen BK326.out 5
             go_wp2_with (first | ((with_reducible refine gate_callee (f := 53) rfl ?_); refine goesL_ (some 60) rfl rfl Try.func53 (by kernel_rfl) rfl #[.agg #[.int .i64 ((rd_T49 l0 x4_1).f0), .int .i64 ((rd_T49 l0 x4_1).f1), .int .i64 ((rd_T49 l0 x4_1).f2), .int .i64 ((rd_T49 l0 x4_1).f3), .int .i64 ((rd_T49 l0 x4_1).f4), .int .i64 ((rd_T49 l0 x4_1).f5)]] rfl (by (try simp only [List.map_toArray, List.map_cons, List.map_nil]); first | done | rfl | (simp only [List.length_drop, List.length_take]; rfl)) ?_; (with_reducible refine (larchref17_leaf.calls ((rd_T49 l0 x4_1).f0) ((rd_T49 l0 x4_1).f1) ((rd_T49 l0 x4_1).f2) ((rd_T49 l0 x4_1).f3) ((rd_T49 l0 x4_1).f4) ((rd_T49 l0 x4_1).f5) true _ A35.out).mono ?_); rintro e w38 ⟨rfl, hb⟩; refine ⟨_, rfl, ?_⟩; have n0_ := Aside0.mk (Kd.R_below (by (with_reducible repeat (first | apply Kd.R_alloc | apply Kd.R_drewN | apply Kd.R_drew)); exact HO_3.out) hb); have n1_ := Aside0.mk (blk_below (g := gb326) (o := .cells #[.int .i64 ((rd_T49 l0 x4_1).f0), .int .i64 ((rd_T49 l0 x4_1).f1), .int .i64 ((rd_T49 l0 x4_1).f2), .int .i64 ((rd_T49 l0 x4_1).f3), .int .i64 ((rd_T49 l0 x4_1).f4), .int .i64 ((rd_T49 l0 x4_1).f5)] 49 (0, 0)) (by (with_reducible repeat (first | refine blk_drewN ?_ _ | refine blk_drew ?_ | refine blk_alloc ?_ _)); exact BK326.out) hb); have n2_ := Aside0.mk (below_step (by repeat (first | (with_reducible first | exact HB.out | apply below_alloc | apply pw_below_drewN | apply below_drew1 | refine below_set ?_ GE326.out) | exact HB.out)) hb); clear HO_3; clear BK326; clear HB; have HO_3 := n0_; have BK326 := n1_; have HB := n2_; clear n0_ n1_ n2_; (try clear hb); (try clear hb2); (try clear hk); (try clear hi)))
             go_roundg kj9
             case measure => have := HK1.out; have := HJ9.out; omega
             case rel => exact ⟨(x3_1), (wrap64 (x4_1 + 1)), (by first | rfl | (simp; done) | (simp [*]; done)), H', ⟨by have := HK1.out; have := HJ9.out; omega⟩, ⟨by (with_reducible repeat (first | apply Kd.R_alloc | apply Kd.R_drewN | apply Kd.R_drew)); exact HO_3.out⟩, ⟨by repeat (first | (with_reducible first | exact HB.out | apply below_alloc | apply pw_below_drewN | apply below_drew1 | refine below_set ?_ GE326.out) | exact HB.out)⟩⟩
            ·
             replace c36 := Bool.eq_false_iff.mpr c36
             subst c36
             have H1 : (if ((rd_T49 l0 x4_1).f3) = 0 then (if ((rd_T49 l0 x4_1).f4) < 1 then (some 3) else (if ((rd_T49 l0 x4_1).f4) ≥ (l0.length : Int) then (some 3) else (if ((rd_T49 l0 x4_1).f5) < 1 then (some 3) else (if ((rd_T49 l0 x4_1).f5) ≥ (l0.length : Int) then (some 3) else (if ((rd_T49 l0 x4_1).f4) = ((rd_T49 l0 x4_1).f5) then (some 3) else (if 0 ≤ ((rd_T49 l0 x4_1).f4) then (if ((rd_T49 l0 x4_1).f4) < (x3_1.length : Int) then ((some (x3_1.set (((rd_T49 l0 x4_1).f4) : Int).toNat (wrap64 ((rd x3_1 ((rd_T49 l0 x4_1).f4)) + 1)) : List Int)).bind fun y329 => (if 0 ≤ ((rd_T49 l0 x4_1).f5) then (if ((rd_T49 l0 x4_1).f5) < (x3_1.length : Int) then (larchref17_Check.l0 kj9 l0 (y329.set (((rd_T49 l0 x4_1).f5) : Int).toNat (wrap64 ((rd y329 ((rd_T49 l0 x4_1).f5)) + 1))) (wrap64 (x4_1 + 1))) else (none)) else (none))) else (none)) else (none))))))) else (some 3)) = some r := by rw [if_neg (show ¬ (false = true) by decide)] at H; exact H
             clear H
             have H := H1
             clear H1
             by_cases c39 : ((rd_T49 l0 x4_1).f3) = 0
             ·
              rw [if_pos c39] at H
              have c39b0 : (((rd_T49 l0 x4_1).f3) == 0) = true := beq_iff_eq.mpr c39
              have c39b1 : (((rd_T49 l0 x4_1).f3) != 0) = false := bne_eq_false_iff_eq.mpr c39
              clear c39
              by_cases c40 : ((rd_T49 l0 x4_1).f4) < 1
              ·
               rw [if_pos c40] at H
               have c40b0 : decide (((rd_T49 l0 x4_1).f4) < 1) = true := decide_eq_true c40
               clear c40
               obtain rfl := Option.some.inj H
               have hcz41_0 : wc.cell? ⟨gb326, 0, none⟩ = some (.int .i64 ((rd_T49 l0 x4_1).f0)) := (blk_cell BK326.out 0).trans rfl
               have hcz41_1 : wc.cell? ⟨gb326, 1, none⟩ = some (.int .i64 ((rd_T49 l0 x4_1).f1)) := (blk_cell BK326.out 1).trans rfl
               have hcz41_2 : wc.cell? ⟨gb326, 2, none⟩ = some (.int .i64 ((rd_T49 l0 x4_1).f2)) := (blk_cell BK326.out 2).trans rfl
               have hcz41_3 : wc.cell? ⟨gb326, 3, none⟩ = some (.int .i64 ((rd_T49 l0 x4_1).f3)) := (blk_cell BK326.out 3).trans rfl
               have hcz41_4 : wc.cell? ⟨gb326, 4, none⟩ = some (.int .i64 ((rd_T49 l0 x4_1).f4)) := (blk_cell BK326.out 4).trans rfl
               have hcz41_5 : wc.cell? ⟨gb326, 5, none⟩ = some (.int .i64 ((rd_T49 l0 x4_1).f5)) := (blk_cell BK326.out 5).trans rfl
               have hfz41_0 := blk_frozen BK326.out 0
               have hfz41_1 := blk_frozen BK326.out 1
               have hfz41_2 := blk_frozen BK326.out 2
               have hfz41_3 := blk_frozen BK326.out 3
               have hfz41_4 := blk_frozen BK326.out 4
               have hfz41_5 := blk_frozen BK326.out 5
               go_wp2_with (first | ((with_reducible refine gate_callee (f := 53) rfl ?_); refine goesL_ (some 60) rfl rfl Try.func53 (by kernel_rfl) rfl #[.agg #[.int .i64 ((rd_T49 l0 x4_1).f0), .int .i64 ((rd_T49 l0 x4_1).f1), .int .i64 ((rd_T49 l0 x4_1).f2), .int .i64 ((rd_T49 l0 x4_1).f3), .int .i64 ((rd_T49 l0 x4_1).f4), .int .i64 ((rd_T49 l0 x4_1).f5)]] rfl (by (try simp only [List.map_toArray, List.map_cons, List.map_nil]); first | done | rfl | (simp only [List.length_drop, List.length_take]; rfl)) ?_; (with_reducible refine (larchref17_leaf.calls ((rd_T49 l0 x4_1).f0) ((rd_T49 l0 x4_1).f1) ((rd_T49 l0 x4_1).f2) ((rd_T49 l0 x4_1).f3) ((rd_T49 l0 x4_1).f4) ((rd_T49 l0 x4_1).f5) false _ A35.out).mono ?_); rintro e w42 ⟨rfl, hb⟩; refine ⟨_, rfl, ?_⟩; have n0_ := Aside0.mk (Kd.R_below (by (with_reducible repeat (first | apply Kd.R_alloc | apply Kd.R_drewN | apply Kd.R_drew)); exact HO_3.out) hb); have n1_ := Aside0.mk (blk_below (g := gb326) (o := .cells #[.int .i64 ((rd_T49 l0 x4_1).f0), .int .i64 ((rd_T49 l0 x4_1).f1), .int .i64 ((rd_T49 l0 x4_1).f2), .int .i64 ((rd_T49 l0 x4_1).f3), .int .i64 ((rd_T49 l0 x4_1).f4), .int .i64 ((rd_T49 l0 x4_1).f5)] 49 (0, 0)) (by (with_reducible repeat (first | refine blk_drewN ?_ _ | refine blk_drew ?_ | refine blk_alloc ?_ _)); exact BK326.out) hb); have n2_ := Aside0.mk (below_step (by repeat (first | (with_reducible first | exact HB.out | apply below_alloc | apply pw_below_drewN | apply below_drew1 | refine below_set ?_ GE326.out) | exact HB.out)) hb); clear HO_3; clear BK326; clear HB; have HO_3 := n0_; have BK326 := n1_; have HB := n2_; clear n0_ n1_ n2_; (try clear hb); (try clear hb2); (try clear hk); (try clear hi); have hcz43_0 : w42.cell? ⟨gb326, 0, none⟩ = some (.int .i64 ((rd_T49 l0 x4_1).f0)) := (blk_cell BK326.out 0).trans rfl; have hcz43_1 : w42.cell? ⟨gb326, 1, none⟩ = some (.int .i64 ((rd_T49 l0 x4_1).f1)) := (blk_cell BK326.out 1).trans rfl; have hcz43_2 : w42.cell? ⟨gb326, 2, none⟩ = some (.int .i64 ((rd_T49 l0 x4_1).f2)) := (blk_cell BK326.out 2).trans rfl; have hcz43_3 : w42.cell? ⟨gb326, 3, none⟩ = some (.int .i64 ((rd_T49 l0 x4_1).f3)) := (blk_cell BK326.out 3).trans rfl; have hcz43_4 : w42.cell? ⟨gb326, 4, none⟩ = some (.int .i64 ((rd_T49 l0 x4_1).f4)) := (blk_cell BK326.out 4).trans rfl; have hcz43_5 : w42.cell? ⟨gb326, 5, none⟩ = some (.int .i64 ((rd_T49 l0 x4_1).f5)) := (blk_cell BK326.out 5).trans rfl; have hfz43_0 := blk_frozen BK326.out 0; have hfz43_1 := blk_frozen BK326.out 1; have hfz43_2 := blk_frozen BK326.out 2; have hfz43_3 := blk_frozen BK326.out 3; have hfz43_4 := blk_frozen BK326.out 4; have hfz43_5 := blk_frozen BK326.out 5))
               go_ret
               exact ⟨by first | rfl | (simp [errW_none, errW_some] <;> rfl) | (simp [*, errW_none, errW_some] <;> rfl), by repeat (first | (with_reducible first | exact HB.out | apply below_alloc | apply pw_below_drewN | apply below_drew1 | refine below_set ?_ GE326.out) | exact HB.out)⟩
              ·
               rw [if_neg c40] at H
               have c40b0 : decide (((rd_T49 l0 x4_1).f4) < 1) = false := decide_eq_false c40
               clear c40
               by_cases c44 : ((rd_T49 l0 x4_1).f4) ≥ (l0.length : Int)
               ·
                rw [if_pos c44] at H
                have c44b0 : decide ((l0.length : Int) ≤ ((rd_T49 l0 x4_1).f4)) = true := decide_eq_true c44
                clear c44
                obtain rfl := Option.some.inj H
                have hcz45_0 : wc.cell? ⟨gb326, 0, none⟩ = some (.int .i64 ((rd_T49 l0 x4_1).f0)) := (blk_cell BK326.out 0).trans rfl
                have hcz45_1 : wc.cell? ⟨gb326, 1, none⟩ = some (.int .i64 ((rd_T49 l0 x4_1).f1)) := (blk_cell BK326.out 1).trans rfl
                have hcz45_2 : wc.cell? ⟨gb326, 2, none⟩ = some (.int .i64 ((rd_T49 l0 x4_1).f2)) := (blk_cell BK326.out 2).trans rfl
                have hcz45_3 : wc.cell? ⟨gb326, 3, none⟩ = some (.int .i64 ((rd_T49 l0 x4_1).f3)) := (blk_cell BK326.out 3).trans rfl
                have hcz45_4 : wc.cell? ⟨gb326, 4, none⟩ = some (.int .i64 ((rd_T49 l0 x4_1).f4)) := (blk_cell BK326.out 4).trans rfl
                have hcz45_5 : wc.cell? ⟨gb326, 5, none⟩ = some (.int .i64 ((rd_T49 l0 x4_1).f5)) := (blk_cell BK326.out 5).trans rfl
                have hfz45_0 := blk_frozen BK326.out 0
                have hfz45_1 := blk_frozen BK326.out 1
                have hfz45_2 := blk_frozen BK326.out 2
                have hfz45_3 := blk_frozen BK326.out 3
                have hfz45_4 := blk_frozen BK326.out 4
                have hfz45_5 := blk_frozen BK326.out 5
                go_wp2_with (first | ((with_reducible refine gate_callee (f := 53) rfl ?_); refine goesL_ (some 60) rfl rfl Try.func53 (by kernel_rfl) rfl #[.agg #[.int .i64 ((rd_T49 l0 x4_1).f0), .int .i64 ((rd_T49 l0 x4_1).f1), .int .i64 ((rd_T49 l0 x4_1).f2), .int .i64 ((rd_T49 l0 x4_1).f3), .int .i64 ((rd_T49 l0 x4_1).f4), .int .i64 ((rd_T49 l0 x4_1).f5)]] rfl (by (try simp only [List.map_toArray, List.map_cons, List.map_nil]); first | done | rfl | (simp only [List.length_drop, List.length_take]; rfl)) ?_; (with_reducible refine (larchref17_leaf.calls ((rd_T49 l0 x4_1).f0) ((rd_T49 l0 x4_1).f1) ((rd_T49 l0 x4_1).f2) ((rd_T49 l0 x4_1).f3) ((rd_T49 l0 x4_1).f4) ((rd_T49 l0 x4_1).f5) false _ A35.out).mono ?_); rintro e w46 ⟨rfl, hb⟩; refine ⟨_, rfl, ?_⟩; have n0_ := Aside0.mk (Kd.R_below (by (with_reducible repeat (first | apply Kd.R_alloc | apply Kd.R_drewN | apply Kd.R_drew)); exact HO_3.out) hb); have n1_ := Aside0.mk (blk_below (g := gb326) (o := .cells #[.int .i64 ((rd_T49 l0 x4_1).f0), .int .i64 ((rd_T49 l0 x4_1).f1), .int .i64 ((rd_T49 l0 x4_1).f2), .int .i64 ((rd_T49 l0 x4_1).f3), .int .i64 ((rd_T49 l0 x4_1).f4), .int .i64 ((rd_T49 l0 x4_1).f5)] 49 (0, 0)) (by (with_reducible repeat (first | refine blk_drewN ?_ _ | refine blk_drew ?_ | refine blk_alloc ?_ _)); exact BK326.out) hb); have n2_ := Aside0.mk (below_step (by repeat (first | (with_reducible first | exact HB.out | apply below_alloc | apply pw_below_drewN | apply below_drew1 | refine below_set ?_ GE326.out) | exact HB.out)) hb); clear HO_3; clear BK326; clear HB; have HO_3 := n0_; have BK326 := n1_; have HB := n2_; clear n0_ n1_ n2_; (try clear hb); (try clear hb2); (try clear hk); (try clear hi); have hcz47_0 : w46.cell? ⟨gb326, 0, none⟩ = some (.int .i64 ((rd_T49 l0 x4_1).f0)) := (blk_cell BK326.out 0).trans rfl; have hcz47_1 : w46.cell? ⟨gb326, 1, none⟩ = some (.int .i64 ((rd_T49 l0 x4_1).f1)) := (blk_cell BK326.out 1).trans rfl; have hcz47_2 : w46.cell? ⟨gb326, 2, none⟩ = some (.int .i64 ((rd_T49 l0 x4_1).f2)) := (blk_cell BK326.out 2).trans rfl; have hcz47_3 : w46.cell? ⟨gb326, 3, none⟩ = some (.int .i64 ((rd_T49 l0 x4_1).f3)) := (blk_cell BK326.out 3).trans rfl; have hcz47_4 : w46.cell? ⟨gb326, 4, none⟩ = some (.int .i64 ((rd_T49 l0 x4_1).f4)) := (blk_cell BK326.out 4).trans rfl; have hcz47_5 : w46.cell? ⟨gb326, 5, none⟩ = some (.int .i64 ((rd_T49 l0 x4_1).f5)) := (blk_cell BK326.out 5).trans rfl; have hfz47_0 := blk_frozen BK326.out 0; have hfz47_1 := blk_frozen BK326.out 1; have hfz47_2 := blk_frozen BK326.out 2; have hfz47_3 := blk_frozen BK326.out 3; have hfz47_4 := blk_frozen BK326.out 4; have hfz47_5 := blk_frozen BK326.out 5))
                go_ret
                exact ⟨by first | rfl | (simp [errW_none, errW_some] <;> rfl) | (simp [*, errW_none, errW_some] <;> rfl), by repeat (first | (with_reducible first | exact HB.out | apply below_alloc | apply pw_below_drewN | apply below_drew1 | refine below_set ?_ GE326.out) | exact HB.out)⟩
               ·
                rw [if_neg c44] at H
                have c44b0 : decide ((l0.length : Int) ≤ ((rd_T49 l0 x4_1).f4)) = false := decide_eq_false c44
                clear c44
                by_cases c48 : ((rd_T49 l0 x4_1).f5) < 1
                ·
                 rw [if_pos c48] at H
                 have c48b0 : decide (((rd_T49 l0 x4_1).f5) < 1) = true := decide_eq_true c48
                 clear c48
                 obtain rfl := Option.some.inj H
                 have hcz49_0 : wc.cell? ⟨gb326, 0, none⟩ = some (.int .i64 ((rd_T49 l0 x4_1).f0)) := (blk_cell BK326.out 0).trans rfl
                 have hcz49_1 : wc.cell? ⟨gb326, 1, none⟩ = some (.int .i64 ((rd_T49 l0 x4_1).f1)) := (blk_cell BK326.out 1).trans rfl
                 have hcz49_2 : wc.cell? ⟨gb326, 2, none⟩ = some (.int .i64 ((rd_T49 l0 x4_1).f2)) := (blk_cell BK326.out 2).trans rfl
                 have hcz49_3 : wc.cell? ⟨gb326, 3, none⟩ = some (.int .i64 ((rd_T49 l0 x4_1).f3)) := (blk_cell BK326.out 3).trans rfl
                 have hcz49_4 : wc.cell? ⟨gb326, 4, none⟩ = some (.int .i64 ((rd_T49 l0 x4_1).f4)) := (blk_cell BK326.out 4).trans rfl
                 have hcz49_5 : wc.cell? ⟨gb326, 5, none⟩ = some (.int .i64 ((rd_T49 l0 x4_1).f5)) := (blk_cell BK326.out 5).trans rfl
                 have hfz49_0 := blk_frozen BK326.out 0
                 have hfz49_1 := blk_frozen BK326.out 1
                 have hfz49_2 := blk_frozen BK326.out 2
                 have hfz49_3 := blk_frozen BK326.out 3
                 have hfz49_4 := blk_frozen BK326.out 4
                 have hfz49_5 := blk_frozen BK326.out 5
                 go_wp2_with (first | ((with_reducible refine gate_callee (f := 53) rfl ?_); refine goesL_ (some 60) rfl rfl Try.func53 (by kernel_rfl) rfl #[.agg #[.int .i64 ((rd_T49 l0 x4_1).f0), .int .i64 ((rd_T49 l0 x4_1).f1), .int .i64 ((rd_T49 l0 x4_1).f2), .int .i64 ((rd_T49 l0 x4_1).f3), .int .i64 ((rd_T49 l0 x4_1).f4), .int .i64 ((rd_T49 l0 x4_1).f5)]] rfl (by (try simp only [List.map_toArray, List.map_cons, List.map_nil]); first | done | rfl | (simp only [List.length_drop, List.length_take]; rfl)) ?_; (with_reducible refine (larchref17_leaf.calls ((rd_T49 l0 x4_1).f0) ((rd_T49 l0 x4_1).f1) ((rd_T49 l0 x4_1).f2) ((rd_T49 l0 x4_1).f3) ((rd_T49 l0 x4_1).f4) ((rd_T49 l0 x4_1).f5) false _ A35.out).mono ?_); rintro e w50 ⟨rfl, hb⟩; refine ⟨_, rfl, ?_⟩; have n0_ := Aside0.mk (Kd.R_below (by (with_reducible repeat (first | apply Kd.R_alloc | apply Kd.R_drewN | apply Kd.R_drew)); exact HO_3.out) hb); have n1_ := Aside0.mk (blk_below (g := gb326) (o := .cells #[.int .i64 ((rd_T49 l0 x4_1).f0), .int .i64 ((rd_T49 l0 x4_1).f1), .int .i64 ((rd_T49 l0 x4_1).f2), .int .i64 ((rd_T49 l0 x4_1).f3), .int .i64 ((rd_T49 l0 x4_1).f4), .int .i64 ((rd_T49 l0 x4_1).f5)] 49 (0, 0)) (by (with_reducible repeat (first | refine blk_drewN ?_ _ | refine blk_drew ?_ | refine blk_alloc ?_ _)); exact BK326.out) hb); have n2_ := Aside0.mk (below_step (by repeat (first | (with_reducible first | exact HB.out | apply below_alloc | apply pw_below_drewN | apply below_drew1 | refine below_set ?_ GE326.out) | exact HB.out)) hb); clear HO_3; clear BK326; clear HB; have HO_3 := n0_; have BK326 := n1_; have HB := n2_; clear n0_ n1_ n2_; (try clear hb); (try clear hb2); (try clear hk); (try clear hi); have hcz51_0 : w50.cell? ⟨gb326, 0, none⟩ = some (.int .i64 ((rd_T49 l0 x4_1).f0)) := (blk_cell BK326.out 0).trans rfl; have hcz51_1 : w50.cell? ⟨gb326, 1, none⟩ = some (.int .i64 ((rd_T49 l0 x4_1).f1)) := (blk_cell BK326.out 1).trans rfl; have hcz51_2 : w50.cell? ⟨gb326, 2, none⟩ = some (.int .i64 ((rd_T49 l0 x4_1).f2)) := (blk_cell BK326.out 2).trans rfl; have hcz51_3 : w50.cell? ⟨gb326, 3, none⟩ = some (.int .i64 ((rd_T49 l0 x4_1).f3)) := (blk_cell BK326.out 3).trans rfl; have hcz51_4 : w50.cell? ⟨gb326, 4, none⟩ = some (.int .i64 ((rd_T49 l0 x4_1).f4)) := (blk_cell BK326.out 4).trans rfl; have hcz51_5 : w50.cell? ⟨gb326, 5, none⟩ = some (.int .i64 ((rd_T49 l0 x4_1).f5)) := (blk_cell BK326.out 5).trans rfl; have hfz51_0 := blk_frozen BK326.out 0; have hfz51_1 := blk_frozen BK326.out 1; have hfz51_2 := blk_frozen BK326.out 2; have hfz51_3 := blk_frozen BK326.out 3; have hfz51_4 := blk_frozen BK326.out 4; have hfz51_5 := blk_frozen BK326.out 5))
                 go_ret
                 exact ⟨by first | rfl | (simp [errW_none, errW_some] <;> rfl) | (simp [*, errW_none, errW_some] <;> rfl), by repeat (first | (with_reducible first | exact HB.out | apply below_alloc | apply pw_below_drewN | apply below_drew1 | refine below_set ?_ GE326.out) | exact HB.out)⟩
                ·
                 rw [if_neg c48] at H
                 have c48b0 : decide (((rd_T49 l0 x4_1).f5) < 1) = false := decide_eq_false c48
                 clear c48
                 by_cases c52 : ((rd_T49 l0 x4_1).f5) ≥ (l0.length : Int)
                 ·
                  rw [if_pos c52] at H
                  have c52b0 : decide ((l0.length : Int) ≤ ((rd_T49 l0 x4_1).f5)) = true := decide_eq_true c52
                  clear c52
                  obtain rfl := Option.some.inj H
                  have hcz53_0 : wc.cell? ⟨gb326, 0, none⟩ = some (.int .i64 ((rd_T49 l0 x4_1).f0)) := (blk_cell BK326.out 0).trans rfl
                  have hcz53_1 : wc.cell? ⟨gb326, 1, none⟩ = some (.int .i64 ((rd_T49 l0 x4_1).f1)) := (blk_cell BK326.out 1).trans rfl
                  have hcz53_2 : wc.cell? ⟨gb326, 2, none⟩ = some (.int .i64 ((rd_T49 l0 x4_1).f2)) := (blk_cell BK326.out 2).trans rfl
                  have hcz53_3 : wc.cell? ⟨gb326, 3, none⟩ = some (.int .i64 ((rd_T49 l0 x4_1).f3)) := (blk_cell BK326.out 3).trans rfl
                  have hcz53_4 : wc.cell? ⟨gb326, 4, none⟩ = some (.int .i64 ((rd_T49 l0 x4_1).f4)) := (blk_cell BK326.out 4).trans rfl
                  have hcz53_5 : wc.cell? ⟨gb326, 5, none⟩ = some (.int .i64 ((rd_T49 l0 x4_1).f5)) := (blk_cell BK326.out 5).trans rfl
                  have hfz53_0 := blk_frozen BK326.out 0
                  have hfz53_1 := blk_frozen BK326.out 1
                  have hfz53_2 := blk_frozen BK326.out 2
                  have hfz53_3 := blk_frozen BK326.out 3
                  have hfz53_4 := blk_frozen BK326.out 4
                  have hfz53_5 := blk_frozen BK326.out 5
                  go_wp2_with (first | ((with_reducible refine gate_callee (f := 53) rfl ?_); refine goesL_ (some 60) rfl rfl Try.func53 (by kernel_rfl) rfl #[.agg #[.int .i64 ((rd_T49 l0 x4_1).f0), .int .i64 ((rd_T49 l0 x4_1).f1), .int .i64 ((rd_T49 l0 x4_1).f2), .int .i64 ((rd_T49 l0 x4_1).f3), .int .i64 ((rd_T49 l0 x4_1).f4), .int .i64 ((rd_T49 l0 x4_1).f5)]] rfl (by (try simp only [List.map_toArray, List.map_cons, List.map_nil]); first | done | rfl | (simp only [List.length_drop, List.length_take]; rfl)) ?_; (with_reducible refine (larchref17_leaf.calls ((rd_T49 l0 x4_1).f0) ((rd_T49 l0 x4_1).f1) ((rd_T49 l0 x4_1).f2) ((rd_T49 l0 x4_1).f3) ((rd_T49 l0 x4_1).f4) ((rd_T49 l0 x4_1).f5) false _ A35.out).mono ?_); rintro e w54 ⟨rfl, hb⟩; refine ⟨_, rfl, ?_⟩; have n0_ := Aside0.mk (Kd.R_below (by (with_reducible repeat (first | apply Kd.R_alloc | apply Kd.R_drewN | apply Kd.R_drew)); exact HO_3.out) hb); have n1_ := Aside0.mk (blk_below (g := gb326) (o := .cells #[.int .i64 ((rd_T49 l0 x4_1).f0), .int .i64 ((rd_T49 l0 x4_1).f1), .int .i64 ((rd_T49 l0 x4_1).f2), .int .i64 ((rd_T49 l0 x4_1).f3), .int .i64 ((rd_T49 l0 x4_1).f4), .int .i64 ((rd_T49 l0 x4_1).f5)] 49 (0, 0)) (by (with_reducible repeat (first | refine blk_drewN ?_ _ | refine blk_drew ?_ | refine blk_alloc ?_ _)); exact BK326.out) hb); have n2_ := Aside0.mk (below_step (by repeat (first | (with_reducible first | exact HB.out | apply below_alloc | apply pw_below_drewN | apply below_drew1 | refine below_set ?_ GE326.out) | exact HB.out)) hb); clear HO_3; clear BK326; clear HB; have HO_3 := n0_; have BK326 := n1_; have HB := n2_; clear n0_ n1_ n2_; (try clear hb); (try clear hb2); (try clear hk); (try clear hi); have hcz55_0 : w54.cell? ⟨gb326, 0, none⟩ = some (.int .i64 ((rd_T49 l0 x4_1).f0)) := (blk_cell BK326.out 0).trans rfl; have hcz55_1 : w54.cell? ⟨gb326, 1, none⟩ = some (.int .i64 ((rd_T49 l0 x4_1).f1)) := (blk_cell BK326.out 1).trans rfl; have hcz55_2 : w54.cell? ⟨gb326, 2, none⟩ = some (.int .i64 ((rd_T49 l0 x4_1).f2)) := (blk_cell BK326.out 2).trans rfl; have hcz55_3 : w54.cell? ⟨gb326, 3, none⟩ = some (.int .i64 ((rd_T49 l0 x4_1).f3)) := (blk_cell BK326.out 3).trans rfl; have hcz55_4 : w54.cell? ⟨gb326, 4, none⟩ = some (.int .i64 ((rd_T49 l0 x4_1).f4)) := (blk_cell BK326.out 4).trans rfl; have hcz55_5 : w54.cell? ⟨gb326, 5, none⟩ = some (.int .i64 ((rd_T49 l0 x4_1).f5)) := (blk_cell BK326.out 5).trans rfl; have hfz55_0 := blk_frozen BK326.out 0; have hfz55_1 := blk_frozen BK326.out 1; have hfz55_2 := blk_frozen BK326.out 2; have hfz55_3 := blk_frozen BK326.out 3; have hfz55_4 := blk_frozen BK326.out 4; have hfz55_5 := blk_frozen BK326.out 5))
                  go_ret
                  exact ⟨by first | rfl | (simp [errW_none, errW_some] <;> rfl) | (simp [*, errW_none, errW_some] <;> rfl), by repeat (first | (with_reducible first | exact HB.out | apply below_alloc | apply pw_below_drewN | apply below_drew1 | refine below_set ?_ GE326.out) | exact HB.out)⟩
                 ·
                  rw [if_neg c52] at H
                  have c52b0 : decide ((l0.length : Int) ≤ ((rd_T49 l0 x4_1).f5)) = false := decide_eq_false c52
                  clear c52
                  by_cases c56 : ((rd_T49 l0 x4_1).f4) = ((rd_T49 l0 x4_1).f5)
                  ·
                   rw [if_pos c56] at H
                   have c56b0 : (((rd_T49 l0 x4_1).f4) == ((rd_T49 l0 x4_1).f5)) = true := beq_iff_eq.mpr c56
                   have c56b1 : (((rd_T49 l0 x4_1).f4) != ((rd_T49 l0 x4_1).f5)) = false := bne_eq_false_iff_eq.mpr c56
                   clear c56
                   obtain rfl := Option.some.inj H
                   have hcz57_0 : wc.cell? ⟨gb326, 0, none⟩ = some (.int .i64 ((rd_T49 l0 x4_1).f0)) := (blk_cell BK326.out 0).trans rfl
                   have hcz57_1 : wc.cell? ⟨gb326, 1, none⟩ = some (.int .i64 ((rd_T49 l0 x4_1).f1)) := (blk_cell BK326.out 1).trans rfl
                   have hcz57_2 : wc.cell? ⟨gb326, 2, none⟩ = some (.int .i64 ((rd_T49 l0 x4_1).f2)) := (blk_cell BK326.out 2).trans rfl
                   have hcz57_3 : wc.cell? ⟨gb326, 3, none⟩ = some (.int .i64 ((rd_T49 l0 x4_1).f3)) := (blk_cell BK326.out 3).trans rfl
                   have hcz57_4 : wc.cell? ⟨gb326, 4, none⟩ = some (.int .i64 ((rd_T49 l0 x4_1).f4)) := (blk_cell BK326.out 4).trans rfl
                   have hcz57_5 : wc.cell? ⟨gb326, 5, none⟩ = some (.int .i64 ((rd_T49 l0 x4_1).f5)) := (blk_cell BK326.out 5).trans rfl
                   have hfz57_0 := blk_frozen BK326.out 0
                   have hfz57_1 := blk_frozen BK326.out 1
                   have hfz57_2 := blk_frozen BK326.out 2
                   have hfz57_3 := blk_frozen BK326.out 3
                   have hfz57_4 := blk_frozen BK326.out 4
                   have hfz57_5 := blk_frozen BK326.out 5
                   go_wp2_with (first | ((with_reducible refine gate_callee (f := 53) rfl ?_); refine goesL_ (some 60) rfl rfl Try.func53 (by kernel_rfl) rfl #[.agg #[.int .i64 ((rd_T49 l0 x4_1).f0), .int .i64 ((rd_T49 l0 x4_1).f1), .int .i64 ((rd_T49 l0 x4_1).f2), .int .i64 ((rd_T49 l0 x4_1).f3), .int .i64 ((rd_T49 l0 x4_1).f4), .int .i64 ((rd_T49 l0 x4_1).f5)]] rfl (by (try simp only [List.map_toArray, List.map_cons, List.map_nil]); first | done | rfl | (simp only [List.length_drop, List.length_take]; rfl)) ?_; (with_reducible refine (larchref17_leaf.calls ((rd_T49 l0 x4_1).f0) ((rd_T49 l0 x4_1).f1) ((rd_T49 l0 x4_1).f2) ((rd_T49 l0 x4_1).f3) ((rd_T49 l0 x4_1).f4) ((rd_T49 l0 x4_1).f5) false _ A35.out).mono ?_); rintro e w58 ⟨rfl, hb⟩; refine ⟨_, rfl, ?_⟩; have n0_ := Aside0.mk (Kd.R_below (by (with_reducible repeat (first | apply Kd.R_alloc | apply Kd.R_drewN | apply Kd.R_drew)); exact HO_3.out) hb); have n1_ := Aside0.mk (blk_below (g := gb326) (o := .cells #[.int .i64 ((rd_T49 l0 x4_1).f0), .int .i64 ((rd_T49 l0 x4_1).f1), .int .i64 ((rd_T49 l0 x4_1).f2), .int .i64 ((rd_T49 l0 x4_1).f3), .int .i64 ((rd_T49 l0 x4_1).f4), .int .i64 ((rd_T49 l0 x4_1).f5)] 49 (0, 0)) (by (with_reducible repeat (first | refine blk_drewN ?_ _ | refine blk_drew ?_ | refine blk_alloc ?_ _)); exact BK326.out) hb); have n2_ := Aside0.mk (below_step (by repeat (first | (with_reducible first | exact HB.out | apply below_alloc | apply pw_below_drewN | apply below_drew1 | refine below_set ?_ GE326.out) | exact HB.out)) hb); clear HO_3; clear BK326; clear HB; have HO_3 := n0_; have BK326 := n1_; have HB := n2_; clear n0_ n1_ n2_; (try clear hb); (try clear hb2); (try clear hk); (try clear hi); have hcz59_0 : w58.cell? ⟨gb326, 0, none⟩ = some (.int .i64 ((rd_T49 l0 x4_1).f0)) := (blk_cell BK326.out 0).trans rfl; have hcz59_1 : w58.cell? ⟨gb326, 1, none⟩ = some (.int .i64 ((rd_T49 l0 x4_1).f1)) := (blk_cell BK326.out 1).trans rfl; have hcz59_2 : w58.cell? ⟨gb326, 2, none⟩ = some (.int .i64 ((rd_T49 l0 x4_1).f2)) := (blk_cell BK326.out 2).trans rfl; have hcz59_3 : w58.cell? ⟨gb326, 3, none⟩ = some (.int .i64 ((rd_T49 l0 x4_1).f3)) := (blk_cell BK326.out 3).trans rfl; have hcz59_4 : w58.cell? ⟨gb326, 4, none⟩ = some (.int .i64 ((rd_T49 l0 x4_1).f4)) := (blk_cell BK326.out 4).trans rfl; have hcz59_5 : w58.cell? ⟨gb326, 5, none⟩ = some (.int .i64 ((rd_T49 l0 x4_1).f5)) := (blk_cell BK326.out 5).trans rfl; have hfz59_0 := blk_frozen BK326.out 0; have hfz59_1 := blk_frozen BK326.out 1; have hfz59_2 := blk_frozen BK326.out 2; have hfz59_3 := blk_frozen BK326.out 3; have hfz59_4 := blk_frozen BK326.out 4; have hfz59_5 := blk_frozen BK326.out 5))
                   go_ret
                   exact ⟨by first | rfl | (simp [errW_none, errW_some] <;> rfl) | (simp [*, errW_none, errW_some] <;> rfl), by repeat (first | (with_reducible first | exact HB.out | apply below_alloc | apply pw_below_drewN | apply below_drew1 | refine below_set ?_ GE326.out) | exact HB.out)⟩
                  ·
                   rw [if_neg c56] at H
                   have c56b0 : (((rd_T49 l0 x4_1).f4) == ((rd_T49 l0 x4_1).f5)) = false := beq_eq_false_iff_ne.mpr c56
                   have c56b1 : (((rd_T49 l0 x4_1).f4) != ((rd_T49 l0 x4_1).f5)) = true := bne_iff_ne.mpr c56
                   by_cases c60 : 0 ≤ ((rd_T49 l0 x4_1).f4)
                   ·
                    rw [if_pos c60] at H
                    have c60b0 : decide (0 ≤ ((rd_T49 l0 x4_1).f4)) = true := decide_eq_true c60
                    clear c60
                    by_cases c61 : ((rd_T49 l0 x4_1).f4) < (x3_1.length : Int)
                    ·
                     rw [if_pos c61] at H
                     have c61b0 : decide (((rd_T49 l0 x4_1).f4) < (x3_1.length : Int)) = true := decide_eq_true c61
                     clear c61
                     obtain ⟨y329, hy329⟩ : ∃ y_ : List Int, y_ = (x3_1.set (((rd_T49 l0 x4_1).f4) : Int).toNat (wrap64 ((rd x3_1 ((rd_T49 l0 x4_1).f4)) + 1))) := ⟨_, rfl⟩
                     replace H : (if 0 ≤ ((rd_T49 l0 x4_1).f5) then (if ((rd_T49 l0 x4_1).f5) < (x3_1.length : Int) then (larchref17_Check.l0 kj9 l0 (y329.set (((rd_T49 l0 x4_1).f5) : Int).toNat (wrap64 ((rd y329 ((rd_T49 l0 x4_1).f5)) + 1))) (wrap64 (x4_1 + 1))) else (none)) else (none)) = some r := by first | (rw [hy329]; with_reducible exact H) | (have H2_ := (Option.bind_some _ _).symm.trans H; rw [hy329]; with_reducible exact H2_) | (have H2_ := (Option.bind_some _ _).symm.trans H; with_reducible exact H2_) | with_reducible exact H | (rw [hy329]; exact H) | exact H
                     have Ny329 := Aside0.mk hy329
                     clear hy329
                     by_cases c63 : 0 ≤ ((rd_T49 l0 x4_1).f5)
                     ·
                      rw [if_pos c63] at H
                      have c63b0 : decide (0 ≤ ((rd_T49 l0 x4_1).f5)) = true := decide_eq_true c63
                      clear c63
                      by_cases c64 : ((rd_T49 l0 x4_1).f5) < (x3_1.length : Int)
                      ·
                       rw [if_pos c64] at H
                       have c64b0 : decide (((rd_T49 l0 x4_1).f5) < (x3_1.length : Int)) = true := decide_eq_true c64
                       clear c64
                       obtain ⟨y331, hy331⟩ : ∃ y_ : List Int, y_ = (y329.set (((rd_T49 l0 x4_1).f5) : Int).toNat (wrap64 ((rd y329 ((rd_T49 l0 x4_1).f5)) + 1))) := ⟨_, rfl⟩
                       replace H : (larchref17_Check.l0 kj9 l0 y331 (wrap64 (x4_1 + 1))) = some r := by first | (rw [hy331]; with_reducible exact H) | (have H2_ := (Option.bind_some _ _).symm.trans H; rw [hy331]; with_reducible exact H2_) | (have H2_ := (Option.bind_some _ _).symm.trans H; with_reducible exact H2_) | with_reducible exact H | (rw [hy331]; exact H) | exact H
                       have Ny331 := Aside0.mk hy331
                       clear hy331
                       have H' := Aside0.mk H
                       clear H
                       have hcz66_0 : wc.cell? ⟨gb326, 0, none⟩ = some (.int .i64 ((rd_T49 l0 x4_1).f0)) := (blk_cell BK326.out 0).trans rfl
                       have hcz66_1 : wc.cell? ⟨gb326, 1, none⟩ = some (.int .i64 ((rd_T49 l0 x4_1).f1)) := (blk_cell BK326.out 1).trans rfl
                       have hcz66_2 : wc.cell? ⟨gb326, 2, none⟩ = some (.int .i64 ((rd_T49 l0 x4_1).f2)) := (blk_cell BK326.out 2).trans rfl
                       have hcz66_3 : wc.cell? ⟨gb326, 3, none⟩ = some (.int .i64 ((rd_T49 l0 x4_1).f3)) := (blk_cell BK326.out 3).trans rfl
                       have hcz66_4 : wc.cell? ⟨gb326, 4, none⟩ = some (.int .i64 ((rd_T49 l0 x4_1).f4)) := (blk_cell BK326.out 4).trans rfl
                       have hcz66_5 : wc.cell? ⟨gb326, 5, none⟩ = some (.int .i64 ((rd_T49 l0 x4_1).f5)) := (blk_cell BK326.out 5).trans rfl
                       have hfz66_0 := blk_frozen BK326.out 0
                       have hfz66_1 := blk_frozen BK326.out 1
                       have hfz66_2 := blk_frozen BK326.out 2
                       have hfz66_3 := blk_frozen BK326.out 3
                       have hfz66_4 := blk_frozen BK326.out 4
                       have hfz66_5 := blk_frozen BK326.out 5
                       go_wp2_with (first | ((with_reducible refine gate_callee (f := 53) rfl ?_); refine goesL_ (some 60) rfl rfl Try.func53 (by kernel_rfl) rfl #[.agg #[.int .i64 ((rd_T49 l0 x4_1).f0), .int .i64 ((rd_T49 l0 x4_1).f1), .int .i64 ((rd_T49 l0 x4_1).f2), .int .i64 ((rd_T49 l0 x4_1).f3), .int .i64 ((rd_T49 l0 x4_1).f4), .int .i64 ((rd_T49 l0 x4_1).f5)]] rfl (by (try simp only [List.map_toArray, List.map_cons, List.map_nil]); first | done | rfl | (simp only [List.length_drop, List.length_take]; rfl)) ?_; (with_reducible refine (larchref17_leaf.calls ((rd_T49 l0 x4_1).f0) ((rd_T49 l0 x4_1).f1) ((rd_T49 l0 x4_1).f2) ((rd_T49 l0 x4_1).f3) ((rd_T49 l0 x4_1).f4) ((rd_T49 l0 x4_1).f5) false _ A35.out).mono ?_); rintro e w67 ⟨rfl, hb⟩; refine ⟨_, rfl, ?_⟩; have n0_ := Aside0.mk (Kd.R_below (by (with_reducible repeat (first | apply Kd.R_alloc | apply Kd.R_drewN | apply Kd.R_drew)); exact HO_3.out) hb); have n1_ := Aside0.mk (blk_below (g := gb326) (o := .cells #[.int .i64 ((rd_T49 l0 x4_1).f0), .int .i64 ((rd_T49 l0 x4_1).f1), .int .i64 ((rd_T49 l0 x4_1).f2), .int .i64 ((rd_T49 l0 x4_1).f3), .int .i64 ((rd_T49 l0 x4_1).f4), .int .i64 ((rd_T49 l0 x4_1).f5)] 49 (0, 0)) (by (with_reducible repeat (first | refine blk_drewN ?_ _ | refine blk_drew ?_ | refine blk_alloc ?_ _)); exact BK326.out) hb); have n2_ := Aside0.mk (below_step (by repeat (first | (with_reducible first | exact HB.out | apply below_alloc | apply pw_below_drewN | apply below_drew1 | refine below_set ?_ GE326.out) | exact HB.out)) hb); clear HO_3; clear BK326; clear HB; have HO_3 := n0_; have BK326 := n1_; have HB := n2_; clear n0_ n1_ n2_; (try clear hb); (try clear hb2); (try clear hk); (try clear hi); have hcz68_0 : w67.cell? ⟨gb326, 0, none⟩ = some (.int .i64 ((rd_T49 l0 x4_1).f0)) := (blk_cell BK326.out 0).trans rfl; have hcz68_1 : w67.cell? ⟨gb326, 1, none⟩ = some (.int .i64 ((rd_T49 l0 x4_1).f1)) := (blk_cell BK326.out 1).trans rfl; have hcz68_2 : w67.cell? ⟨gb326, 2, none⟩ = some (.int .i64 ((rd_T49 l0 x4_1).f2)) := (blk_cell BK326.out 2).trans rfl; have hcz68_3 : w67.cell? ⟨gb326, 3, none⟩ = some (.int .i64 ((rd_T49 l0 x4_1).f3)) := (blk_cell BK326.out 3).trans rfl; have hcz68_4 : w67.cell? ⟨gb326, 4, none⟩ = some (.int .i64 ((rd_T49 l0 x4_1).f4)) := (blk_cell BK326.out 4).trans rfl; have hcz68_5 : w67.cell? ⟨gb326, 5, none⟩ = some (.int .i64 ((rd_T49 l0 x4_1).f5)) := (blk_cell BK326.out 5).trans rfl; have hfz68_0 := blk_frozen BK326.out 0; have hfz68_1 := blk_frozen BK326.out 1; have hfz68_2 := blk_frozen BK326.out 2; have hfz68_3 := blk_frozen BK326.out 3; have hfz68_4 := blk_frozen BK326.out 4; have hfz68_5 := blk_frozen BK326.out 5; obtain ⟨Ao69, co69, eo69⟩ := Kd.R_slice HO_3.out; subst eo69; have p328 : 0 ≤ (((rd_T49 l0 x4_1).f4) : Int) := of_decide_eq_true (by first | (with_reducible assumption) | assumption); have q328 : ((rd_T49 l0 x4_1).f4) < (x3_1.length : Int) := of_decide_eq_true (by first | (with_reducible assumption) | assumption); obtain ⟨ad328, e328, hx328_0⟩ := Kd.at_int (Kd.R_reads' HO_3.out).2.2 ((rd_T49 l0 x4_1).f4) p328 q328; cases e328; replace p328 := eq_true p328; replace q328 := eq_true q328; have p62 : 0 ≤ (((rd_T49 l0 x4_1).f4) : Int) := of_decide_eq_true (by first | (with_reducible assumption) | assumption); have q62 : (((rd_T49 l0 x4_1).f4) : Int) < ((x3_1.length : Int) : Int) := of_decide_eq_true (by first | (with_reducible assumption) | assumption); obtain ⟨go62, co62, eo62, gb62, gl62, cl62, HG62⟩ := Kd.R_form HO_3.out (by omega); (first | cases eo62 | (injection eo62 with ea_ en_ ec_; (first | subst ea_ | (injection ea_ with ea_; subst ea_)); subst ec_; clear en_)); have GB62 := Aside0.mk gb62; have GG62 := Aside0.mk HG62; clear gb62 gl62 HG62; (first | simp only [add_plain] at hx328_0 | skip); obtain ⟨hx62_0, hf62_0⟩ := Kd.R_celln 0 HO_3.out (((rd_T49 l0 x4_1).f4) : Int) p62 q62; replace p62 := eq_true p62; replace q62 := eq_true q62; obtain ⟨hy70_, hz70_⟩ := Kd.R_celln 0 HO_3.out (((rd_T49 l0 x4_1).f4) : Int) (of_decide_eq_true (by first | (with_reducible assumption) | assumption)) (of_decide_eq_true (by first | (with_reducible assumption) | assumption)); have HP70 := Kd.R_putg HO_3.out (((rd_T49 l0 x4_1).f4) : Int) (wrap64 ((rd x3_1 ((rd_T49 l0 x4_1).f4)) + 1))) | ((with_reducible refine gate_store (t := 3) (p := 101) rfl ?_); refine store_event (t := 3) (p := 101) (v := ?vo_w71) (w1 := (w67.setCell ⟨go62, (((rd_T49 l0 x4_1).f4) : Int).toNat, none⟩ (.int .i64 (wrap64 ((rd x3_1 ((rd_T49 l0 x4_1).f4)) + 1))))) ?hg ?ho ?hn ?hr ?_; (case ho => rfl); (case hg => rfl); (case hn => rfl); (case hr => first | (go_simp; done) | (go_simp; rfl)); intro w71 hw; have hg : w67.grownBy w71 (some go62) := (by rw [hw]; exact HP70.2); have hp_ : Kd.R (Kd.int .i64) 3 w71 w.heap.size (fun _ => True) (.slice (some ⟨go62, 0, none⟩) x3_1.length co69) y329 := (by rw [hw, Ny329.out]; exact HP70.1); clear HP70; have n0_ := Aside0.mk (hp_); have n1_ := Aside0.mk (blk_grown (g := gb326) (o := .cells #[.int .i64 ((rd_T49 l0 x4_1).f0), .int .i64 ((rd_T49 l0 x4_1).f1), .int .i64 ((rd_T49 l0 x4_1).f2), .int .i64 ((rd_T49 l0 x4_1).f3), .int .i64 ((rd_T49 l0 x4_1).f4), .int .i64 ((rd_T49 l0 x4_1).f5)] 49 (0, 0)) (by (with_reducible repeat (first | refine blk_drewN ?_ _ | refine blk_drew ?_ | refine blk_alloc ?_ _)); exact BK326.out) hg (Kd.R_ne HO_3.out BK326.out (by decide))); have n2_ := Aside0.mk ((by rw [hw]; exact below_set (HB.out) GB62.out : Below w.heap.size w w71)); clear HO_3; clear BK326; clear HB; have HO_3 := n0_; have BK326 := n1_; have HB := n2_; clear n0_ n1_ n2_; clear hg hw hp_; have hcz72_0 : w71.cell? ⟨gb326, 0, none⟩ = some (.int .i64 ((rd_T49 l0 x4_1).f0)) := (blk_cell BK326.out 0).trans rfl; have hcz72_1 : w71.cell? ⟨gb326, 1, none⟩ = some (.int .i64 ((rd_T49 l0 x4_1).f1)) := (blk_cell BK326.out 1).trans rfl; have hcz72_2 : w71.cell? ⟨gb326, 2, none⟩ = some (.int .i64 ((rd_T49 l0 x4_1).f2)) := (blk_cell BK326.out 2).trans rfl; have hcz72_3 : w71.cell? ⟨gb326, 3, none⟩ = some (.int .i64 ((rd_T49 l0 x4_1).f3)) := (blk_cell BK326.out 3).trans rfl; have hcz72_4 : w71.cell? ⟨gb326, 4, none⟩ = some (.int .i64 ((rd_T49 l0 x4_1).f4)) := (blk_cell BK326.out 4).trans rfl; have hcz72_5 : w71.cell? ⟨gb326, 5, none⟩ = some (.int .i64 ((rd_T49 l0 x4_1).f5)) := (blk_cell BK326.out 5).trans rfl; have hfz72_0 := blk_frozen BK326.out 0; have hfz72_1 := blk_frozen BK326.out 1; have hfz72_2 := blk_frozen BK326.out 2; have hfz72_3 := blk_frozen BK326.out 3; have hfz72_4 := blk_frozen BK326.out 4; have hfz72_5 := blk_frozen BK326.out 5; have p330 : 0 ≤ (((rd_T49 l0 x4_1).f5) : Int) := of_decide_eq_true (by first | (with_reducible assumption) | assumption); have q330 : ((rd_T49 l0 x4_1).f5) < (y329.length : Int) := (by have h_ : (((rd_T49 l0 x4_1).f5) : Int) < ((x3_1.length : Int) : Int) := of_decide_eq_true (by first | (with_reducible assumption) | assumption); first | (have e_ := (Kd.R_reads' HO_3.out).1; omega) | simpa only [Ny329.out, List.length_set] using h_); have ql330 : ((((rd_T49 l0 x4_1).f5) : Int) < ((x3_1.length : Int) : Int)) = True := eq_true (of_decide_eq_true (by first | (with_reducible assumption) | assumption)); obtain ⟨ad330, e330, hx330_0⟩ := Kd.at_int (Kd.R_reads' HO_3.out).2.2 ((rd_T49 l0 x4_1).f5) p330 q330; obtain rfl : (⟨go62, 0, none⟩ : Addr) = ad330 := (by injection e330); (first | simp only [add_plain] at hx330_0 | simp only [add_at] at hx330_0 | simp only [Addr.add, Nat.zero_add] at hx330_0 | skip); replace p330 := eq_true p330; replace q330 := eq_true q330; have p65 : 0 ≤ (((rd_T49 l0 x4_1).f5) : Int) := of_decide_eq_true (by first | (with_reducible assumption) | assumption); have q65 : (((rd_T49 l0 x4_1).f5) : Int) < ((x3_1.length : Int) : Int) := of_decide_eq_true (by first | (with_reducible assumption) | assumption); obtain ⟨hx65_0, hf65_0⟩ := Kd.R_celln 0 HO_3.out (((rd_T49 l0 x4_1).f5) : Int) p65 q65; replace p65 := eq_true p65; replace q65 := eq_true q65; obtain ⟨hy73_, hz73_⟩ := Kd.R_celln 0 HO_3.out (((rd_T49 l0 x4_1).f5) : Int) (of_decide_eq_true (by first | (with_reducible assumption) | assumption)) (of_decide_eq_true (by first | (with_reducible assumption) | assumption)); have HP73 := Kd.R_putg HO_3.out (((rd_T49 l0 x4_1).f5) : Int) (wrap64 ((rd y329 ((rd_T49 l0 x4_1).f5)) + 1))) | ((with_reducible refine gate_store (t := 3) (p := 108) rfl ?_); refine store_event (t := 3) (p := 108) (v := ?vo_w74) (w1 := (w71.setCell ⟨go62, (((rd_T49 l0 x4_1).f5) : Int).toNat, none⟩ (.int .i64 (wrap64 ((rd y329 ((rd_T49 l0 x4_1).f5)) + 1))))) ?hg ?ho ?hn ?hr ?_; (case ho => rfl); (case hg => rfl); (case hn => rfl); (case hr => first | (go_simp; done) | (go_simp; rfl)); intro w74 hw; have hg : w71.grownBy w74 (some go62) := (by rw [hw]; exact HP73.2); have hp_ : Kd.R (Kd.int .i64) 3 w74 w.heap.size (fun _ => True) (.slice (some ⟨go62, 0, none⟩) x3_1.length co69) y331 := (by rw [hw, Ny331.out]; exact HP73.1); clear HP73; have n0_ := Aside0.mk (hp_); have n1_ := Aside0.mk (blk_grown (g := gb326) (o := .cells #[.int .i64 ((rd_T49 l0 x4_1).f0), .int .i64 ((rd_T49 l0 x4_1).f1), .int .i64 ((rd_T49 l0 x4_1).f2), .int .i64 ((rd_T49 l0 x4_1).f3), .int .i64 ((rd_T49 l0 x4_1).f4), .int .i64 ((rd_T49 l0 x4_1).f5)] 49 (0, 0)) (by (with_reducible repeat (first | refine blk_drewN ?_ _ | refine blk_drew ?_ | refine blk_alloc ?_ _)); exact BK326.out) hg (Kd.R_ne HO_3.out BK326.out (by decide))); have n2_ := Aside0.mk ((by rw [hw]; exact below_set (HB.out) GB62.out : Below w.heap.size w w74)); clear HO_3; clear BK326; clear HB; have HO_3 := n0_; have BK326 := n1_; have HB := n2_; clear n0_ n1_ n2_; clear hg hw hp_))
                       go_roundg kj9
                       case measure => have := HK1.out; have := HJ9.out; omega
                       case rel => exact ⟨(y331), (wrap64 (x4_1 + 1)), (by first | rfl | (simp; done) | (simp [*]; done)), H', ⟨by have := HK1.out; have := HJ9.out; omega⟩, ⟨by (with_reducible repeat (first | apply Kd.R_alloc | apply Kd.R_drewN | apply Kd.R_drew)); exact HO_3.out⟩, ⟨by repeat (first | (with_reducible first | exact HB.out | apply below_alloc | apply pw_below_drewN | apply below_drew1 | refine below_set ?_ GE326.out) | exact HB.out)⟩⟩
                      ·
                       rw [if_neg c64] at H
                       exact absurd H (by simp)
                     ·
                      rw [if_neg c63] at H
                      exact absurd H (by simp)
                    ·
                     rw [if_neg c61] at H
                     exact absurd H (by simp)
                   ·
                    rw [if_neg c60] at H
                    exact absurd H (by simp)
             ·
              rw [if_neg c39] at H
              have c39b0 : (((rd_T49 l0 x4_1).f3) == 0) = false := beq_eq_false_iff_ne.mpr c39
              have c39b1 : (((rd_T49 l0 x4_1).f3) != 0) = true := bne_iff_ne.mpr c39
              obtain rfl := Option.some.inj H
              have hcz75_0 : wc.cell? ⟨gb326, 0, none⟩ = some (.int .i64 ((rd_T49 l0 x4_1).f0)) := (blk_cell BK326.out 0).trans rfl
              have hcz75_1 : wc.cell? ⟨gb326, 1, none⟩ = some (.int .i64 ((rd_T49 l0 x4_1).f1)) := (blk_cell BK326.out 1).trans rfl
              have hcz75_2 : wc.cell? ⟨gb326, 2, none⟩ = some (.int .i64 ((rd_T49 l0 x4_1).f2)) := (blk_cell BK326.out 2).trans rfl
              have hcz75_3 : wc.cell? ⟨gb326, 3, none⟩ = some (.int .i64 ((rd_T49 l0 x4_1).f3)) := (blk_cell BK326.out 3).trans rfl
              have hcz75_4 : wc.cell? ⟨gb326, 4, none⟩ = some (.int .i64 ((rd_T49 l0 x4_1).f4)) := (blk_cell BK326.out 4).trans rfl
              have hcz75_5 : wc.cell? ⟨gb326, 5, none⟩ = some (.int .i64 ((rd_T49 l0 x4_1).f5)) := (blk_cell BK326.out 5).trans rfl
              have hfz75_0 := blk_frozen BK326.out 0
              have hfz75_1 := blk_frozen BK326.out 1
              have hfz75_2 := blk_frozen BK326.out 2
              have hfz75_3 := blk_frozen BK326.out 3
              have hfz75_4 := blk_frozen BK326.out 4
              have hfz75_5 := blk_frozen BK326.out 5
              go_wp2_with (first | ((with_reducible refine gate_callee (f := 53) rfl ?_); refine goesL_ (some 60) rfl rfl Try.func53 (by kernel_rfl) rfl #[.agg #[.int .i64 ((rd_T49 l0 x4_1).f0), .int .i64 ((rd_T49 l0 x4_1).f1), .int .i64 ((rd_T49 l0 x4_1).f2), .int .i64 ((rd_T49 l0 x4_1).f3), .int .i64 ((rd_T49 l0 x4_1).f4), .int .i64 ((rd_T49 l0 x4_1).f5)]] rfl (by (try simp only [List.map_toArray, List.map_cons, List.map_nil]); first | done | rfl | (simp only [List.length_drop, List.length_take]; rfl)) ?_; (with_reducible refine (larchref17_leaf.calls ((rd_T49 l0 x4_1).f0) ((rd_T49 l0 x4_1).f1) ((rd_T49 l0 x4_1).f2) ((rd_T49 l0 x4_1).f3) ((rd_T49 l0 x4_1).f4) ((rd_T49 l0 x4_1).f5) false _ A35.out).mono ?_); rintro e w76 ⟨rfl, hb⟩; refine ⟨_, rfl, ?_⟩; have n0_ := Aside0.mk (Kd.R_below (by (with_reducible repeat (first | apply Kd.R_alloc | apply Kd.R_drewN | apply Kd.R_drew)); exact HO_3.out) hb); have n1_ := Aside0.mk (blk_below (g := gb326) (o := .cells #[.int .i64 ((rd_T49 l0 x4_1).f0), .int .i64 ((rd_T49 l0 x4_1).f1), .int .i64 ((rd_T49 l0 x4_1).f2), .int .i64 ((rd_T49 l0 x4_1).f3), .int .i64 ((rd_T49 l0 x4_1).f4), .int .i64 ((rd_T49 l0 x4_1).f5)] 49 (0, 0)) (by (with_reducible repeat (first | refine blk_drewN ?_ _ | refine blk_drew ?_ | refine blk_alloc ?_ _)); exact BK326.out) hb); have n2_ := Aside0.mk (below_step (by repeat (first | (with_reducible first | exact HB.out | apply below_alloc | apply pw_below_drewN | apply below_drew1 | refine below_set ?_ GE326.out) | exact HB.out)) hb); clear HO_3; clear BK326; clear HB; have HO_3 := n0_; have BK326 := n1_; have HB := n2_; clear n0_ n1_ n2_; (try clear hb); (try clear hb2); (try clear hk); (try clear hi); have hcz77_0 : w76.cell? ⟨gb326, 0, none⟩ = some (.int .i64 ((rd_T49 l0 x4_1).f0)) := (blk_cell BK326.out 0).trans rfl; have hcz77_1 : w76.cell? ⟨gb326, 1, none⟩ = some (.int .i64 ((rd_T49 l0 x4_1).f1)) := (blk_cell BK326.out 1).trans rfl; have hcz77_2 : w76.cell? ⟨gb326, 2, none⟩ = some (.int .i64 ((rd_T49 l0 x4_1).f2)) := (blk_cell BK326.out 2).trans rfl; have hcz77_3 : w76.cell? ⟨gb326, 3, none⟩ = some (.int .i64 ((rd_T49 l0 x4_1).f3)) := (blk_cell BK326.out 3).trans rfl; have hcz77_4 : w76.cell? ⟨gb326, 4, none⟩ = some (.int .i64 ((rd_T49 l0 x4_1).f4)) := (blk_cell BK326.out 4).trans rfl; have hcz77_5 : w76.cell? ⟨gb326, 5, none⟩ = some (.int .i64 ((rd_T49 l0 x4_1).f5)) := (blk_cell BK326.out 5).trans rfl; have hfz77_0 := blk_frozen BK326.out 0; have hfz77_1 := blk_frozen BK326.out 1; have hfz77_2 := blk_frozen BK326.out 2; have hfz77_3 := blk_frozen BK326.out 3; have hfz77_4 := blk_frozen BK326.out 4; have hfz77_5 := blk_frozen BK326.out 5))
              go_ret
              exact ⟨by first | rfl | (simp [errW_none, errW_some] <;> rfl) | (simp [*, errW_none, errW_some] <;> rfl), by repeat (first | (with_reducible first | exact HB.out | apply below_alloc | apply pw_below_drewN | apply below_drew1 | refine below_set ?_ GE326.out) | exact HB.out)⟩
        ·
         rw [if_neg c9] at H
         exact absurd H (by simp)
       ·
        rw [if_neg c8] at H
        have c8b0 : decide (x4_1 < (l0.length : Int)) = false := decide_eq_false c8
        clear c8
        have H' := Aside0.mk H
        clear H
        go_wp2
        go_loopg [6] k1 (fun kq v6 w' => ∃ (x6_2 : Int), v6 = .int .i64 x6_2 ∧ Aside0 (larchref17_Check.l1 kq l0 x3_1 x6_2 = some r) ∧ Aside0 (kq ≤ k1) ∧ Aside0 (Kd.R (Kd.int .i64) 3 w' w.heap.size (fun _ => True) v323 x3_1) ∧ Aside0 (Below w.heap.size w w'))
        case atStart => exact ⟨(1), (by first | rfl | (simp; done) | (simp [*]; done)), H', ⟨Nat.le_refl _⟩, ⟨by (with_reducible repeat (first | apply Kd.R_alloc | apply Kd.R_drewN | apply Kd.R_drew)); exact HO_3.out⟩, ⟨by repeat (first | (with_reducible first | exact HB.out | apply below_alloc | apply pw_below_drewN | apply below_drew1) | exact HB.out)⟩⟩
        case round =>
         clear H'
         try clear c1
         try clear c2
         try clear c2b0
         try clear c2b1
         try clear p2
         try clear c3
         try clear c3b0
         try clear c3b1
         try clear c3b2
         try clear p3
         try clear q3
         try clear hx3
         try clear c4
         try clear c4b0
         try clear c4b1
         try clear c5
         try clear c5b0
         try clear c5b1
         try clear c6
         try clear p6
         try clear q6
         try clear hx6
         try clear hf6
         try clear c8
         try clear c8b0
         try clear c9
         try clear c9b0
         try clear c13
         try clear c13b0
         try clear c13b1
         try clear c14
         try clear c14b0
         try clear c14b1
         try clear c15
         try clear c15b0
         try clear c15b1
         try clear c16
         try clear c16b0
         try clear c16b1
         try clear c17
         try clear c17b0
         try clear c22
         try clear c22b0
         try clear c25
         try clear c25b0
         try clear c25b1
         try clear c26
         try clear c26b0
         try clear c26b1
         try clear c27
         try clear c27b0
         try clear c27b1
         try clear c28
         try clear c28b0
         try clear p32
         try clear q32
         try clear hx32
         try clear p33
         try clear q33
         try clear hx33
         try clear c34
         try clear c36
         try clear c39
         try clear c39b0
         try clear c39b1
         try clear c40
         try clear c40b0
         try clear c44
         try clear c44b0
         try clear c48
         try clear c48b0
         try clear c52
         try clear c52b0
         try clear c53
         try clear c56
         try clear c56b0
         try clear c56b1
         try clear c60
         try clear c60b0
         try clear c61
         try clear c61b0
         try clear p62
         try clear q62
         try clear hx62
         try clear hf62
         try clear c63
         try clear c63b0
         try clear c64
         try clear c64b0
         try clear p64
         try clear p65
         try clear q65
         try clear hx65
         try clear hf65
         try clear hcz12_0
         try clear hcz12_1
         try clear hcz12_2
         try clear hcz12_3
         try clear hcz12_4
         try clear hcz12_5
         try clear hcz18_0
         try clear hcz18_1
         try clear hcz18_2
         try clear hcz18_3
         try clear hcz18_4
         try clear hcz18_5
         try clear hcz19_0
         try clear hcz19_1
         try clear hcz19_2
         try clear hcz19_3
         try clear hcz19_4
         try clear hcz19_5
         try clear hcz20_0
         try clear hcz20_1
         try clear hcz20_2
         try clear hcz20_3
         try clear hcz20_4
         try clear hcz20_5
         try clear hcz21_0
         try clear hcz21_1
         try clear hcz21_2
         try clear hcz21_3
         try clear hcz21_4
         try clear hcz21_5
         try clear hcz23_0
         try clear hcz23_1
         try clear hcz23_2
         try clear hcz23_3
         try clear hcz23_4
         try clear hcz23_5
         try clear hcz24_0
         try clear hcz24_1
         try clear hcz24_2
         try clear hcz24_3
         try clear hcz24_4
         try clear hcz24_5
         try clear hcz29_0
         try clear hcz29_1
         try clear hcz29_2
         try clear hcz29_3
         try clear hcz29_4
         try clear hcz29_5
         try clear hcz30_0
         try clear hcz30_1
         try clear hcz30_2
         try clear hcz30_3
         try clear hcz30_4
         try clear hcz30_5
         try clear hcz31_0
         try clear hcz31_1
         try clear hcz31_2
         try clear hcz31_3
         try clear hcz31_4
         try clear hcz31_5
         try clear hcz32_0
         try clear hcz32_1
         try clear hcz32_2
         try clear hcz32_3
         try clear hcz32_4
         try clear hcz32_5
         try clear hcz33_0
         try clear hcz33_1
         try clear hcz33_2
         try clear hcz33_3
         try clear hcz33_4
         try clear hcz33_5
         try clear hcz37_0
         try clear hcz37_1
         try clear hcz37_2
         try clear hcz37_3
         try clear hcz37_4
         try clear hcz37_5
         try clear hcz41_0
         try clear hcz41_1
         try clear hcz41_2
         try clear hcz41_3
         try clear hcz41_4
         try clear hcz41_5
         try clear hcz43_0
         try clear hcz43_1
         try clear hcz43_2
         try clear hcz43_3
         try clear hcz43_4
         try clear hcz43_5
         try clear hcz45_0
         try clear hcz45_1
         try clear hcz45_2
         try clear hcz45_3
         try clear hcz45_4
         try clear hcz45_5
         try clear hcz47_0
         try clear hcz47_1
         try clear hcz47_2
         try clear hcz47_3
         try clear hcz47_4
         try clear hcz47_5
         try clear hcz49_0
         try clear hcz49_1
         try clear hcz49_2
         try clear hcz49_3
         try clear hcz49_4
         try clear hcz49_5
         try clear hcz51_0
         try clear hcz51_1
         try clear hcz51_2
         try clear hcz51_3
         try clear hcz51_4
         try clear hcz51_5
         try clear hcz53_0
         try clear hcz53_1
         try clear hcz53_2
         try clear hcz53_3
         try clear hcz53_4
         try clear hcz53_5
         try clear hcz55_0
         try clear hcz55_1
         try clear hcz55_2
         try clear hcz55_3
         try clear hcz55_4
         try clear hcz55_5
         try clear hcz57_0
         try clear hcz57_1
         try clear hcz57_2
         try clear hcz57_3
         try clear hcz57_4
         try clear hcz57_5
         try clear hcz59_0
         try clear hcz59_1
         try clear hcz59_2
         try clear hcz59_3
         try clear hcz59_4
         try clear hcz59_5
         try clear hcz66_0
         try clear hcz66_1
         try clear hcz66_2
         try clear hcz66_3
         try clear hcz66_4
         try clear hcz66_5
         try clear hcz68_0
         try clear hcz68_1
         try clear hcz68_2
         try clear hcz68_3
         try clear hcz68_4
         try clear hcz68_5
         try clear hcz72_0
         try clear hcz72_1
         try clear hcz72_2
         try clear hcz72_3
         try clear hcz72_4
         try clear hcz72_5
         try clear hcz75_0
         try clear hcz75_1
         try clear hcz75_2
         try clear hcz75_3
         try clear hcz75_4
         try clear hcz75_5
         try clear hcz77_0
         try clear hcz77_1
         try clear hcz77_2
         try clear hcz77_3
         try clear hcz77_4
         try clear hcz77_5
         try clear hfz12_0
         try clear hfz12_1
         try clear hfz12_2
         try clear hfz12_3
         try clear hfz12_4
         try clear hfz12_5
         try clear hfz18_0
         try clear hfz18_1
         try clear hfz18_2
         try clear hfz18_3
         try clear hfz18_4
         try clear hfz18_5
         try clear hfz19_0
         try clear hfz19_1
         try clear hfz19_2
         try clear hfz19_3
         try clear hfz19_4
         try clear hfz19_5
         try clear hfz20_0
         try clear hfz20_1
         try clear hfz20_2
         try clear hfz20_3
         try clear hfz20_4
         try clear hfz20_5
         try clear hfz21_0
         try clear hfz21_1
         try clear hfz21_2
         try clear hfz21_3
         try clear hfz21_4
         try clear hfz21_5
         try clear hfz23_0
         try clear hfz23_1
         try clear hfz23_2
         try clear hfz23_3
         try clear hfz23_4
         try clear hfz23_5
         try clear hfz24_0
         try clear hfz24_1
         try clear hfz24_2
         try clear hfz24_3
         try clear hfz24_4
         try clear hfz24_5
         try clear hfz29_0
         try clear hfz29_1
         try clear hfz29_2
         try clear hfz29_3
         try clear hfz29_4
         try clear hfz29_5
         try clear hfz30_0
         try clear hfz30_1
         try clear hfz30_2
         try clear hfz30_3
         try clear hfz30_4
         try clear hfz30_5
         try clear hfz31_0
         try clear hfz31_1
         try clear hfz31_2
         try clear hfz31_3
         try clear hfz31_4
         try clear hfz31_5
         try clear hfz32_0
         try clear hfz32_1
         try clear hfz32_2
         try clear hfz32_3
         try clear hfz32_4
         try clear hfz32_5
         try clear hfz33_0
         try clear hfz33_1
         try clear hfz33_2
         try clear hfz33_3
         try clear hfz33_4
         try clear hfz33_5
         try clear hfz37_0
         try clear hfz37_1
         try clear hfz37_2
         try clear hfz37_3
         try clear hfz37_4
         try clear hfz37_5
         try clear hfz41_0
         try clear hfz41_1
         try clear hfz41_2
         try clear hfz41_3
         try clear hfz41_4
         try clear hfz41_5
         try clear hfz43_0
         try clear hfz43_1
         try clear hfz43_2
         try clear hfz43_3
         try clear hfz43_4
         try clear hfz43_5
         try clear hfz45_0
         try clear hfz45_1
         try clear hfz45_2
         try clear hfz45_3
         try clear hfz45_4
         try clear hfz45_5
         try clear hfz47_0
         try clear hfz47_1
         try clear hfz47_2
         try clear hfz47_3
         try clear hfz47_4
         try clear hfz47_5
         try clear hfz49_0
         try clear hfz49_1
         try clear hfz49_2
         try clear hfz49_3
         try clear hfz49_4
         try clear hfz49_5
         try clear hfz51_0
         try clear hfz51_1
         try clear hfz51_2
         try clear hfz51_3
         try clear hfz51_4
         try clear hfz51_5
         try clear hfz53_0
         try clear hfz53_1
         try clear hfz53_2
         try clear hfz53_3
         try clear hfz53_4
         try clear hfz53_5
         try clear hfz55_0
         try clear hfz55_1
         try clear hfz55_2
         try clear hfz55_3
         try clear hfz55_4
         try clear hfz55_5
         try clear hfz57_0
         try clear hfz57_1
         try clear hfz57_2
         try clear hfz57_3
         try clear hfz57_4
         try clear hfz57_5
         try clear hfz59_0
         try clear hfz59_1
         try clear hfz59_2
         try clear hfz59_3
         try clear hfz59_4
         try clear hfz59_5
         try clear hfz66_0
         try clear hfz66_1
         try clear hfz66_2
         try clear hfz66_3
         try clear hfz66_4
         try clear hfz66_5
         try clear hfz68_0
         try clear hfz68_1
         try clear hfz68_2
         try clear hfz68_3
         try clear hfz68_4
         try clear hfz68_5
         try clear hfz72_0
         try clear hfz72_1
         try clear hfz72_2
         try clear hfz72_3
         try clear hfz72_4
         try clear hfz72_5
         try clear hfz75_0
         try clear hfz75_1
         try clear hfz75_2
         try clear hfz75_3
         try clear hfz75_4
         try clear hfz75_5
         try clear hfz77_0
         try clear hfz77_1
         try clear hfz77_2
         try clear hfz77_3
         try clear hfz77_4
         try clear hfz77_5
         try clear hx325_0
         try clear hx325_1
         try clear hx325_2
         try clear hx325_3
         try clear hx325_4
         try clear hx325_5
         try clear hx328_0
         try clear hx330_0
         try clear hx62_0
         try clear hx65_0
         try clear p2
         try clear p3
         try clear p32
         try clear p325
         try clear p328
         try clear p330
         try clear p62
         try clear p65
         try clear q3
         try clear q32
         try clear q325
         try clear q328
         try clear q330
         try clear q62
         try clear q65
         obtain ⟨x6_2, rfl, HA, HK2, HO_3, HB⟩ := hrel
         cases gk with
         | zero => exact absurd HA.out (by simp [larchref17_Check.l1])
         | succ k2 =>
          have H := HA.out
          clear HA
          simp only [larchref17_Check.l1] at H
          by_cases c78 : x6_2 < (l0.length : Int)
          ·
           rw [if_pos c78] at H
           have c78b0 : decide (x6_2 < (l0.length : Int)) = true := decide_eq_true c78
           clear c78
           by_cases c79 : 0 ≤ x6_2
           ·
            rw [if_pos c79] at H
            have c79b0 : decide (0 ≤ x6_2) = true := decide_eq_true c79
            clear c79
            by_cases c80 : x6_2 < (x3_1.length : Int)
            ·
             rw [if_pos c80] at H
             have c80b0 : decide (x6_2 < (x3_1.length : Int)) = true := decide_eq_true c80
             clear c80
             by_cases c81 : (rd x3_1 x6_2) = 1
             ·
              rw [if_pos c81] at H
              have c81b0 : ((rd x3_1 x6_2) == 1) = true := beq_iff_eq.mpr c81
              have c81b1 : ((rd x3_1 x6_2) != 1) = false := bne_eq_false_iff_eq.mpr c81
              clear c81
              have H' := Aside0.mk H
              clear H
              obtain ⟨Ao82, co82, eo82⟩ := Kd.R_slice HO_3.out
              subst eo82
              have p332 : 0 ≤ (x6_2 : Int) := of_decide_eq_true (by first | (with_reducible assumption) | assumption)
              have q332 : x6_2 < (x3_1.length : Int) := of_decide_eq_true (by first | (with_reducible assumption) | assumption)
              obtain ⟨ad332, e332, hx332_0⟩ := Kd.at_int (Kd.R_reads' HO_3.out).2.2 x6_2 p332 q332
              cases e332
              replace p332 := eq_true p332
              replace q332 := eq_true q332
              go_wp2
              go_roundg k2
              case measure => have := HK1.out; have := HK2.out; omega
              case rel => exact ⟨(wrap64 (x6_2 + 1)), (by first | rfl | (simp; done) | (simp [*]; done)), H', ⟨by have := HK1.out; have := HK2.out; omega⟩, ⟨by (with_reducible repeat (first | apply Kd.R_alloc | apply Kd.R_drewN | apply Kd.R_drew)); exact HO_3.out⟩, ⟨by repeat (first | (with_reducible first | exact HB.out | apply below_alloc | apply pw_below_drewN | apply below_drew1) | exact HB.out)⟩⟩
             ·
              rw [if_neg c81] at H
              have c81b0 : ((rd x3_1 x6_2) == 1) = false := beq_eq_false_iff_ne.mpr c81
              have c81b1 : ((rd x3_1 x6_2) != 1) = true := bne_iff_ne.mpr c81
              obtain rfl := Option.some.inj H
              obtain ⟨Ao83, co83, eo83⟩ := Kd.R_slice HO_3.out
              subst eo83
              have p332 : 0 ≤ (x6_2 : Int) := of_decide_eq_true (by first | (with_reducible assumption) | assumption)
              have q332 : x6_2 < (x3_1.length : Int) := of_decide_eq_true (by first | (with_reducible assumption) | assumption)
              obtain ⟨ad332, e332, hx332_0⟩ := Kd.at_int (Kd.R_reads' HO_3.out).2.2 x6_2 p332 q332
              cases e332
              replace p332 := eq_true p332
              replace q332 := eq_true q332
              go_wp2
              go_ret
              exact ⟨by first | rfl | (simp [errW_none, errW_some] <;> rfl) | (simp [*, errW_none, errW_some] <;> rfl), by repeat (first | (with_reducible first | exact HB.out | apply below_alloc | apply pw_below_drewN | apply below_drew1) | exact HB.out)⟩
            ·
             rw [if_neg c80] at H
             exact absurd H (by simp)
           ·
            rw [if_neg c79] at H
            exact absurd H (by simp)
          ·
           rw [if_neg c78] at H
           have c78b0 : decide (x6_2 < (l0.length : Int)) = false := decide_eq_false c78
           clear c78
           by_cases c84 : 0 < (x3_1.length : Int)
           ·
            rw [if_pos c84] at H
            have c84b0 : decide (0 < (x3_1.length : Int)) = true := decide_eq_true c84
            have c84b1 : decide (0 < x3_1.length) = true := decide_eq_true (by omega)
            clear c84
            by_cases c85 : (rd x3_1 0) = 0
            ·
             rw [if_pos c85] at H
             have c85b0 : ((rd x3_1 0) == 0) = true := beq_iff_eq.mpr c85
             have c85b1 : ((rd x3_1 0) != 0) = false := bne_eq_false_iff_eq.mpr c85
             clear c85
             replace H := Option.bind_eq_some_iff.mp H
             obtain ⟨t334, A860, H⟩ := H
             replace H : (if (t334.length : Int) = (l0.length : Int) then (some 0) else (some 3)) = some r := H
             have A86 := Aside0.mk A860
             clear A860
             by_cases c87 : (t334.length : Int) = (l0.length : Int)
             ·
              rw [if_pos c87] at H
              have c87b0 : ((t334.length : Int) == (l0.length : Int)) = true := beq_iff_eq.mpr c87
              have c87b1 : ((t334.length : Int) != (l0.length : Int)) = false := bne_eq_false_iff_eq.mpr c87
              have c87b2 : (t334.length == l0.length) = true := by first | simpa using c87 | (simp at c87 ⊢; omega)
              clear c87
              obtain rfl := Option.some.inj H
              obtain ⟨Ao88, co88, eo88⟩ := Kd.R_slice HO_3.out
              subst eo88
              have p333 : 0 ≤ (0 : Int) := (by omega)
              have q333 : 0 < (x3_1.length : Int) := of_decide_eq_true (by first | (with_reducible assumption) | assumption)
              obtain ⟨ad333, e333, hx333_0⟩ := Kd.at_int (Kd.R_reads' HO_3.out).2.2 0 p333 q333
              cases e333
              have qi333 : (0 < x3_1.length) = True := eq_true (by omega)
              (try rw [show ((0 : Int)).toNat = 0 from rfl] at hx333_0)
              (try rw [Addr.add_zero'] at hx333_0)
              replace p333 := eq_true p333
              replace q333 := eq_true q333
              go_wp2_with (first | (go_at_call 27; (with_reducible refine (larchref17_Order.calls k2 _ _ l0 0 t334 _ ?side1 ?side2 A86.out).mono ?_); (case side1 => repeat (first | exact (Kd.C_below HR0.out HB.out) | (with_reducible refine Kd.C_alloc ?_ _) | (with_reducible refine Kd.C_drewN ?_ _) | (with_reducible refine Kd.C_drew ?_))); (case side2 => exact HC0.out); rintro e w89 ⟨v335, rfl, ho0, hb⟩; have n0_ := Aside0.mk (Kd.R_elder' (by (with_reducible repeat (first | apply Kd.R_alloc | apply Kd.R_drewN | apply Kd.R_drew)); exact HO_3.out) (Kd.R_base ho0) hb); have n1_ := Aside0.mk (Kd.R_lower (Kd.R_new' ho0 (Kd.R_lt (by (with_reducible repeat (first | apply Kd.R_alloc | apply Kd.R_drewN | apply Kd.R_drew)); exact HO_3.out))) (below_size (by repeat (first | (with_reducible first | exact HB.out | apply below_alloc | apply pw_below_drewN | apply below_drew1) | exact HB.out)))); have n2_ := Aside0.mk (below_step (by repeat (first | (with_reducible first | exact HB.out | apply below_alloc | apply pw_below_drewN | apply below_drew1) | exact HB.out)) hb); clear HO_3; clear HB; have HO_3 := n0_; have HO336 := n1_; have HB := n2_; clear n0_ n1_ n2_; (try clear hb); (try clear hb2); (try clear hk); (try clear hi); (try clear ho0); obtain ⟨Ao90, co90, eo90⟩ := Kd.R_slice HO336.out; subst eo90))
              go_ret
              exact ⟨by first | rfl | (simp [errW_none, errW_some] <;> rfl) | (simp [*, errW_none, errW_some] <;> rfl), by repeat (first | (with_reducible first | exact HB.out | apply below_alloc | apply pw_below_drewN | apply below_drew1) | exact HB.out)⟩
             ·
              rw [if_neg c87] at H
              have c87b0 : ((t334.length : Int) == (l0.length : Int)) = false := beq_eq_false_iff_ne.mpr c87
              have c87b1 : ((t334.length : Int) != (l0.length : Int)) = true := bne_iff_ne.mpr c87
              have c87b2 : (t334.length == l0.length) = false := by first | simpa using c87 | (simp at c87 ⊢; omega)
              obtain rfl := Option.some.inj H
              obtain ⟨Ao91, co91, eo91⟩ := Kd.R_slice HO_3.out
              subst eo91
              have p333 : 0 ≤ (0 : Int) := (by omega)
              have q333 : 0 < (x3_1.length : Int) := of_decide_eq_true (by first | (with_reducible assumption) | assumption)
              obtain ⟨ad333, e333, hx333_0⟩ := Kd.at_int (Kd.R_reads' HO_3.out).2.2 0 p333 q333
              cases e333
              have qi333 : (0 < x3_1.length) = True := eq_true (by omega)
              (try rw [show ((0 : Int)).toNat = 0 from rfl] at hx333_0)
              (try rw [Addr.add_zero'] at hx333_0)
              replace p333 := eq_true p333
              replace q333 := eq_true q333
              go_wp2_with (first | (go_at_call 27; (with_reducible refine (larchref17_Order.calls k2 _ _ l0 0 t334 _ ?side1 ?side2 A86.out).mono ?_); (case side1 => repeat (first | exact (Kd.C_below HR0.out HB.out) | (with_reducible refine Kd.C_alloc ?_ _) | (with_reducible refine Kd.C_drewN ?_ _) | (with_reducible refine Kd.C_drew ?_))); (case side2 => exact HC0.out); rintro e w92 ⟨v335, rfl, ho0, hb⟩; have n0_ := Aside0.mk (Kd.R_elder' (by (with_reducible repeat (first | apply Kd.R_alloc | apply Kd.R_drewN | apply Kd.R_drew)); exact HO_3.out) (Kd.R_base ho0) hb); have n1_ := Aside0.mk (Kd.R_lower (Kd.R_new' ho0 (Kd.R_lt (by (with_reducible repeat (first | apply Kd.R_alloc | apply Kd.R_drewN | apply Kd.R_drew)); exact HO_3.out))) (below_size (by repeat (first | (with_reducible first | exact HB.out | apply below_alloc | apply pw_below_drewN | apply below_drew1) | exact HB.out)))); have n2_ := Aside0.mk (below_step (by repeat (first | (with_reducible first | exact HB.out | apply below_alloc | apply pw_below_drewN | apply below_drew1) | exact HB.out)) hb); clear HO_3; clear HB; have HO_3 := n0_; have HO336 := n1_; have HB := n2_; clear n0_ n1_ n2_; (try clear hb); (try clear hb2); (try clear hk); (try clear hi); (try clear ho0); obtain ⟨Ao93, co93, eo93⟩ := Kd.R_slice HO336.out; subst eo93))
              go_ret
              exact ⟨by first | rfl | (simp [errW_none, errW_some] <;> rfl) | (simp [*, errW_none, errW_some] <;> rfl), by repeat (first | (with_reducible first | exact HB.out | apply below_alloc | apply pw_below_drewN | apply below_drew1) | exact HB.out)⟩
            ·
             rw [if_neg c85] at H
             have c85b0 : ((rd x3_1 0) == 0) = false := beq_eq_false_iff_ne.mpr c85
             have c85b1 : ((rd x3_1 0) != 0) = true := bne_iff_ne.mpr c85
             obtain rfl := Option.some.inj H
             obtain ⟨Ao94, co94, eo94⟩ := Kd.R_slice HO_3.out
             subst eo94
             have p333 : 0 ≤ (0 : Int) := (by omega)
             have q333 : 0 < (x3_1.length : Int) := of_decide_eq_true (by first | (with_reducible assumption) | assumption)
             obtain ⟨ad333, e333, hx333_0⟩ := Kd.at_int (Kd.R_reads' HO_3.out).2.2 0 p333 q333
             cases e333
             have qi333 : (0 < x3_1.length) = True := eq_true (by omega)
             (try rw [show ((0 : Int)).toNat = 0 from rfl] at hx333_0)
             (try rw [Addr.add_zero'] at hx333_0)
             replace p333 := eq_true p333
             replace q333 := eq_true q333
             go_wp2
             go_ret
             exact ⟨by first | rfl | (simp [errW_none, errW_some] <;> rfl) | (simp [*, errW_none, errW_some] <;> rfl), by repeat (first | (with_reducible first | exact HB.out | apply below_alloc | apply pw_below_drewN | apply below_drew1) | exact HB.out)⟩
           ·
            rw [if_neg c84] at H
            exact absurd H (by simp)
    ·
     rw [if_neg c5] at H
     exact absurd H (by simp)
   ·
    rw [if_neg c4] at H
    exact absurd H (by simp)
end Go.Proofs.Ytmmjkebboonnkaa.P
/- F30 -/
namespace Go.Proofs.Ytmmjkebboonnkaa.P
open Go.RowKit Go.Proofs.YtmmjkebboonnkaaW.PrintWords Go.Proofs.YtmmjkebboonnkaaW.PrintLast Go.Proofs.YtmmjkebboonnkaaW.PrintMore
attribute [local go_sem] max2_int min2_int max_two min_two max_three min_three max_four min_four   -- for this text's walks alone
set_option linter.unusedVariables false
set_option linter.unusedSimpArgs false
def larchref17_sentinel.f (a0_0 : Int) (a0_1 : Int) (a0_2 : Int) (a0_3 : Int) (a0_4 : Int) (a0_5 : Int) : Option (Bool) := (larchref17_leaf.f a0_0 a0_1 a0_2 a0_3 a0_4 a0_5).bind fun t304 => (if t304 = true then (if a0_1 = 1 then (some (a0_2 == 1)) else (some false)) else (some false))
set_option maxHeartbeats 8000000 in
set_option maxRecDepth 100000 in
theorem larchref17_sentinel.calls (a0_0 : Int) (a0_1 : Int) (a0_2 : Int) (a0_3 : Int) (a0_4 : Int) (a0_5 : Int) (r : Bool) (w : World) (h : larchref17_sentinel.f a0_0 a0_1 a0_2 a0_3 a0_4 a0_5 = some r) :
  Calls Try.prog 54 #[.agg #[.int .i64 a0_0, .int .i64 a0_1, .int .i64 a0_2, .int .i64 a0_3, .int .i64 a0_4, .int .i64 a0_5]] w fun e w' => e = .returned (.bool r) ∧ Below w.heap.size w w' := by
 have hu49 := Try.underlying49
 have HB := Aside0.mk (Below.refl w.heap.size w)
 have H : ((larchref17_leaf.f a0_0 a0_1 a0_2 a0_3 a0_4 a0_5).bind fun t304 => (if t304 = true then (if a0_1 = 1 then (some (a0_2 == 1)) else (some false)) else (some false))) = some r := h
 clear h
 replace H := Option.bind_eq_some_iff.mp H
 obtain ⟨t304, A20, H⟩ := H
 replace H : (if t304 = true then (if a0_1 = 1 then (some (a0_2 == 1)) else (some false)) else (some false)) = some r := H
 have A2 := Aside0.mk A20
 clear A20
 by_cases c3 : t304 = true
 ·
  subst c3
  have H1 : (if a0_1 = 1 then (some (a0_2 == 1)) else (some false)) = some r := by rw [if_pos rfl] at H; exact H
  clear H
  have H := H1
  clear H1
  by_cases c4 : a0_1 = 1
  ·
   rw [if_pos c4] at H
   have c4b0 : (a0_1 == 1) = true := beq_iff_eq.mpr c4
   have c4b1 : (a0_1 != 1) = false := bne_eq_false_iff_eq.mpr c4
   clear c4
   obtain rfl := Option.some.inj H
   go_enter Try.func54, Try.ntmps54
   go_wp2_with (first | ((with_reducible refine gate_dst (N := 1) rfl ?_); refine box_event ?hg (N := 1) ?hd (cs := #[.int .i64 a0_0, .int .i64 a0_1, .int .i64 a0_2, .int .i64 a0_3, .int .i64 a0_4, .int .i64 a0_5]) (t := 49) ?hr ?_; (case hd => rfl); (case hg => rfl); (case hr => first | (go_simp; done) | (go_simp; rfl)); intro gb303 hg w5 hbox hb; have n0_ := Aside0.mk (below_step (by repeat (first | (with_reducible first | exact HB.out | apply below_alloc | apply pw_below_drewN | apply below_drew1) | exact HB.out)) hb); have n1_ := Aside0.mk (hbox); have n2_ := Aside0.mk ((by rw [hg]; exact (below_size (by repeat (first | (with_reducible first | exact HB.out | apply below_alloc | apply pw_below_drewN | apply below_drew1) | exact HB.out))) : w.heap.size ≤ gb303)); have n3_ := Aside0.mk ((by rw [hg]; exact (below_size (by repeat (first | (with_reducible first | exact HB.out | apply below_alloc | apply pw_below_drewN | apply below_drew1) | exact HB.out))) : w.heap.size ≤ gb303)); clear HB; have HB := n0_; have BK303 := n1_; have GW303 := n2_; have GE303 := n3_; clear n0_ n1_ n2_ n3_; clear hb hbox hg; have hcz6_0 : w5.cell? ⟨gb303, 0, none⟩ = some (.int .i64 a0_0) := (blk_cell BK303.out 0).trans rfl; have hcz6_1 : w5.cell? ⟨gb303, 1, none⟩ = some (.int .i64 a0_1) := (blk_cell BK303.out 1).trans rfl; have hcz6_2 : w5.cell? ⟨gb303, 2, none⟩ = some (.int .i64 a0_2) := (blk_cell BK303.out 2).trans rfl; have hcz6_3 : w5.cell? ⟨gb303, 3, none⟩ = some (.int .i64 a0_3) := (blk_cell BK303.out 3).trans rfl; have hcz6_4 : w5.cell? ⟨gb303, 4, none⟩ = some (.int .i64 a0_4) := (blk_cell BK303.out 4).trans rfl; have hcz6_5 : w5.cell? ⟨gb303, 5, none⟩ = some (.int .i64 a0_5) := (blk_cell BK303.out 5).trans rfl; have hfz6_0 := blk_frozen BK303.out 0; have hfz6_1 := blk_frozen BK303.out 1; have hfz6_2 := blk_frozen BK303.out 2; have hfz6_3 := blk_frozen BK303.out 3; have hfz6_4 := blk_frozen BK303.out 4; have hfz6_5 := blk_frozen BK303.out 5) | ((with_reducible refine gate_callee (f := 53) rfl ?_); refine goesL_ (some 4) rfl rfl Try.func53 (by kernel_rfl) rfl #[.agg #[.int .i64 a0_0, .int .i64 a0_1, .int .i64 a0_2, .int .i64 a0_3, .int .i64 a0_4, .int .i64 a0_5]] rfl (by (try simp only [List.map_toArray, List.map_cons, List.map_nil]); first | done | rfl | (simp only [List.length_drop, List.length_take]; rfl)) ?_; (with_reducible refine (larchref17_leaf.calls a0_0 a0_1 a0_2 a0_3 a0_4 a0_5 true _ A2.out).mono ?_); rintro e w7 ⟨rfl, hb⟩; refine ⟨_, rfl, ?_⟩; have n0_ := Aside0.mk (blk_below (g := gb303) (o := .cells #[.int .i64 a0_0, .int .i64 a0_1, .int .i64 a0_2, .int .i64 a0_3, .int .i64 a0_4, .int .i64 a0_5] 49 (0, 0)) (by (with_reducible repeat (first | refine blk_drewN ?_ _ | refine blk_drew ?_ | refine blk_alloc ?_ _)); exact BK303.out) hb); have n1_ := Aside0.mk (below_step (by repeat (first | (with_reducible first | exact HB.out | apply below_alloc | apply pw_below_drewN | apply below_drew1 | refine below_set ?_ GE303.out) | exact HB.out)) hb); clear BK303; clear HB; have BK303 := n0_; have HB := n1_; clear n0_ n1_; (try clear hb); (try clear hb2); (try clear hk); (try clear hi); have hcz8_0 : w7.cell? ⟨gb303, 0, none⟩ = some (.int .i64 a0_0) := (blk_cell BK303.out 0).trans rfl; have hcz8_1 : w7.cell? ⟨gb303, 1, none⟩ = some (.int .i64 a0_1) := (blk_cell BK303.out 1).trans rfl; have hcz8_2 : w7.cell? ⟨gb303, 2, none⟩ = some (.int .i64 a0_2) := (blk_cell BK303.out 2).trans rfl; have hcz8_3 : w7.cell? ⟨gb303, 3, none⟩ = some (.int .i64 a0_3) := (blk_cell BK303.out 3).trans rfl; have hcz8_4 : w7.cell? ⟨gb303, 4, none⟩ = some (.int .i64 a0_4) := (blk_cell BK303.out 4).trans rfl; have hcz8_5 : w7.cell? ⟨gb303, 5, none⟩ = some (.int .i64 a0_5) := (blk_cell BK303.out 5).trans rfl; have hfz8_0 := blk_frozen BK303.out 0; have hfz8_1 := blk_frozen BK303.out 1; have hfz8_2 := blk_frozen BK303.out 2; have hfz8_3 := blk_frozen BK303.out 3; have hfz8_4 := blk_frozen BK303.out 4; have hfz8_5 := blk_frozen BK303.out 5))
   go_ret
   exact ⟨by first | rfl | (simp [errW_none, errW_some] <;> rfl) | (simp [*, errW_none, errW_some] <;> rfl), by repeat (first | (with_reducible first | exact HB.out | apply below_alloc | apply pw_below_drewN | apply below_drew1 | refine below_set ?_ GE303.out) | exact HB.out)⟩
  ·
   rw [if_neg c4] at H
   have c4b0 : (a0_1 == 1) = false := beq_eq_false_iff_ne.mpr c4
   have c4b1 : (a0_1 != 1) = true := bne_iff_ne.mpr c4
   obtain rfl := Option.some.inj H
   go_enter Try.func54, Try.ntmps54
   go_wp2_with (first | ((with_reducible refine gate_dst (N := 1) rfl ?_); refine box_event ?hg (N := 1) ?hd (cs := #[.int .i64 a0_0, .int .i64 a0_1, .int .i64 a0_2, .int .i64 a0_3, .int .i64 a0_4, .int .i64 a0_5]) (t := 49) ?hr ?_; (case hd => rfl); (case hg => rfl); (case hr => first | (go_simp; done) | (go_simp; rfl)); intro gb303 hg w9 hbox hb; have n0_ := Aside0.mk (below_step (by repeat (first | (with_reducible first | exact HB.out | apply below_alloc | apply pw_below_drewN | apply below_drew1) | exact HB.out)) hb); have n1_ := Aside0.mk (hbox); have n2_ := Aside0.mk ((by rw [hg]; exact (below_size (by repeat (first | (with_reducible first | exact HB.out | apply below_alloc | apply pw_below_drewN | apply below_drew1) | exact HB.out))) : w.heap.size ≤ gb303)); have n3_ := Aside0.mk ((by rw [hg]; exact (below_size (by repeat (first | (with_reducible first | exact HB.out | apply below_alloc | apply pw_below_drewN | apply below_drew1) | exact HB.out))) : w.heap.size ≤ gb303)); clear HB; have HB := n0_; have BK303 := n1_; have GW303 := n2_; have GE303 := n3_; clear n0_ n1_ n2_ n3_; clear hb hbox hg; have hcz10_0 : w9.cell? ⟨gb303, 0, none⟩ = some (.int .i64 a0_0) := (blk_cell BK303.out 0).trans rfl; have hcz10_1 : w9.cell? ⟨gb303, 1, none⟩ = some (.int .i64 a0_1) := (blk_cell BK303.out 1).trans rfl; have hcz10_2 : w9.cell? ⟨gb303, 2, none⟩ = some (.int .i64 a0_2) := (blk_cell BK303.out 2).trans rfl; have hcz10_3 : w9.cell? ⟨gb303, 3, none⟩ = some (.int .i64 a0_3) := (blk_cell BK303.out 3).trans rfl; have hcz10_4 : w9.cell? ⟨gb303, 4, none⟩ = some (.int .i64 a0_4) := (blk_cell BK303.out 4).trans rfl; have hcz10_5 : w9.cell? ⟨gb303, 5, none⟩ = some (.int .i64 a0_5) := (blk_cell BK303.out 5).trans rfl; have hfz10_0 := blk_frozen BK303.out 0; have hfz10_1 := blk_frozen BK303.out 1; have hfz10_2 := blk_frozen BK303.out 2; have hfz10_3 := blk_frozen BK303.out 3; have hfz10_4 := blk_frozen BK303.out 4; have hfz10_5 := blk_frozen BK303.out 5) | ((with_reducible refine gate_callee (f := 53) rfl ?_); refine goesL_ (some 4) rfl rfl Try.func53 (by kernel_rfl) rfl #[.agg #[.int .i64 a0_0, .int .i64 a0_1, .int .i64 a0_2, .int .i64 a0_3, .int .i64 a0_4, .int .i64 a0_5]] rfl (by (try simp only [List.map_toArray, List.map_cons, List.map_nil]); first | done | rfl | (simp only [List.length_drop, List.length_take]; rfl)) ?_; (with_reducible refine (larchref17_leaf.calls a0_0 a0_1 a0_2 a0_3 a0_4 a0_5 true _ A2.out).mono ?_); rintro e w11 ⟨rfl, hb⟩; refine ⟨_, rfl, ?_⟩; have n0_ := Aside0.mk (blk_below (g := gb303) (o := .cells #[.int .i64 a0_0, .int .i64 a0_1, .int .i64 a0_2, .int .i64 a0_3, .int .i64 a0_4, .int .i64 a0_5] 49 (0, 0)) (by (with_reducible repeat (first | refine blk_drewN ?_ _ | refine blk_drew ?_ | refine blk_alloc ?_ _)); exact BK303.out) hb); have n1_ := Aside0.mk (below_step (by repeat (first | (with_reducible first | exact HB.out | apply below_alloc | apply pw_below_drewN | apply below_drew1 | refine below_set ?_ GE303.out) | exact HB.out)) hb); clear BK303; clear HB; have BK303 := n0_; have HB := n1_; clear n0_ n1_; (try clear hb); (try clear hb2); (try clear hk); (try clear hi); have hcz12_0 : w11.cell? ⟨gb303, 0, none⟩ = some (.int .i64 a0_0) := (blk_cell BK303.out 0).trans rfl; have hcz12_1 : w11.cell? ⟨gb303, 1, none⟩ = some (.int .i64 a0_1) := (blk_cell BK303.out 1).trans rfl; have hcz12_2 : w11.cell? ⟨gb303, 2, none⟩ = some (.int .i64 a0_2) := (blk_cell BK303.out 2).trans rfl; have hcz12_3 : w11.cell? ⟨gb303, 3, none⟩ = some (.int .i64 a0_3) := (blk_cell BK303.out 3).trans rfl; have hcz12_4 : w11.cell? ⟨gb303, 4, none⟩ = some (.int .i64 a0_4) := (blk_cell BK303.out 4).trans rfl; have hcz12_5 : w11.cell? ⟨gb303, 5, none⟩ = some (.int .i64 a0_5) := (blk_cell BK303.out 5).trans rfl; have hfz12_0 := blk_frozen BK303.out 0; have hfz12_1 := blk_frozen BK303.out 1; have hfz12_2 := blk_frozen BK303.out 2; have hfz12_3 := blk_frozen BK303.out 3; have hfz12_4 := blk_frozen BK303.out 4; have hfz12_5 := blk_frozen BK303.out 5))
   go_ret
   exact ⟨by first | rfl | (simp [errW_none, errW_some] <;> rfl) | (simp [*, errW_none, errW_some] <;> rfl), by repeat (first | (with_reducible first | exact HB.out | apply below_alloc | apply pw_below_drewN | apply below_drew1 | refine below_set ?_ GE303.out) | exact HB.out)⟩
 ·
  replace c3 := Bool.eq_false_iff.mpr c3
  subst c3
  have H1 : (some false) = some r := by rw [if_neg (show ¬ (false = true) by decide)] at H; exact H
  clear H
  have H := H1
  clear H1
  obtain rfl := Option.some.inj H
  go_enter Try.func54, Try.ntmps54
  go_wp2_with (first | ((with_reducible refine gate_dst (N := 1) rfl ?_); refine box_event ?hg (N := 1) ?hd (cs := #[.int .i64 a0_0, .int .i64 a0_1, .int .i64 a0_2, .int .i64 a0_3, .int .i64 a0_4, .int .i64 a0_5]) (t := 49) ?hr ?_; (case hd => rfl); (case hg => rfl); (case hr => first | (go_simp; done) | (go_simp; rfl)); intro gb303 hg w13 hbox hb; have n0_ := Aside0.mk (below_step (by repeat (first | (with_reducible first | exact HB.out | apply below_alloc | apply pw_below_drewN | apply below_drew1) | exact HB.out)) hb); have n1_ := Aside0.mk (hbox); have n2_ := Aside0.mk ((by rw [hg]; exact (below_size (by repeat (first | (with_reducible first | exact HB.out | apply below_alloc | apply pw_below_drewN | apply below_drew1) | exact HB.out))) : w.heap.size ≤ gb303)); have n3_ := Aside0.mk ((by rw [hg]; exact (below_size (by repeat (first | (with_reducible first | exact HB.out | apply below_alloc | apply pw_below_drewN | apply below_drew1) | exact HB.out))) : w.heap.size ≤ gb303)); clear HB; have HB := n0_; have BK303 := n1_; have GW303 := n2_; have GE303 := n3_; clear n0_ n1_ n2_ n3_; clear hb hbox hg; have hcz14_0 : w13.cell? ⟨gb303, 0, none⟩ = some (.int .i64 a0_0) := (blk_cell BK303.out 0).trans rfl; have hcz14_1 : w13.cell? ⟨gb303, 1, none⟩ = some (.int .i64 a0_1) := (blk_cell BK303.out 1).trans rfl; have hcz14_2 : w13.cell? ⟨gb303, 2, none⟩ = some (.int .i64 a0_2) := (blk_cell BK303.out 2).trans rfl; have hcz14_3 : w13.cell? ⟨gb303, 3, none⟩ = some (.int .i64 a0_3) := (blk_cell BK303.out 3).trans rfl; have hcz14_4 : w13.cell? ⟨gb303, 4, none⟩ = some (.int .i64 a0_4) := (blk_cell BK303.out 4).trans rfl; have hcz14_5 : w13.cell? ⟨gb303, 5, none⟩ = some (.int .i64 a0_5) := (blk_cell BK303.out 5).trans rfl; have hfz14_0 := blk_frozen BK303.out 0; have hfz14_1 := blk_frozen BK303.out 1; have hfz14_2 := blk_frozen BK303.out 2; have hfz14_3 := blk_frozen BK303.out 3; have hfz14_4 := blk_frozen BK303.out 4; have hfz14_5 := blk_frozen BK303.out 5) | ((with_reducible refine gate_callee (f := 53) rfl ?_); refine goesL_ (some 4) rfl rfl Try.func53 (by kernel_rfl) rfl #[.agg #[.int .i64 a0_0, .int .i64 a0_1, .int .i64 a0_2, .int .i64 a0_3, .int .i64 a0_4, .int .i64 a0_5]] rfl (by (try simp only [List.map_toArray, List.map_cons, List.map_nil]); first | done | rfl | (simp only [List.length_drop, List.length_take]; rfl)) ?_; (with_reducible refine (larchref17_leaf.calls a0_0 a0_1 a0_2 a0_3 a0_4 a0_5 false _ A2.out).mono ?_); rintro e w15 ⟨rfl, hb⟩; refine ⟨_, rfl, ?_⟩; have n0_ := Aside0.mk (blk_below (g := gb303) (o := .cells #[.int .i64 a0_0, .int .i64 a0_1, .int .i64 a0_2, .int .i64 a0_3, .int .i64 a0_4, .int .i64 a0_5] 49 (0, 0)) (by (with_reducible repeat (first | refine blk_drewN ?_ _ | refine blk_drew ?_ | refine blk_alloc ?_ _)); exact BK303.out) hb); have n1_ := Aside0.mk (below_step (by repeat (first | (with_reducible first | exact HB.out | apply below_alloc | apply pw_below_drewN | apply below_drew1 | refine below_set ?_ GE303.out) | exact HB.out)) hb); clear BK303; clear HB; have BK303 := n0_; have HB := n1_; clear n0_ n1_; (try clear hb); (try clear hb2); (try clear hk); (try clear hi)))
  go_ret
  exact ⟨by first | rfl | (simp [errW_none, errW_some] <;> rfl) | (simp [*, errW_none, errW_some] <;> rfl), by repeat (first | (with_reducible first | exact HB.out | apply below_alloc | apply pw_below_drewN | apply below_drew1 | refine below_set ?_ GE303.out) | exact HB.out)⟩
end Go.Proofs.Ytmmjkebboonnkaa.P
