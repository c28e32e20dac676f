/- P.weighMemory_holds, part 16 of 28: the contracts of the Go functions that the law calls, its own walk, and its plain law, for every input that the statement speaks of. -/
import Derived.Test.YtmmjkebboonnkaaMMe2
import Derived.Test.YtmmjkebboonnkaaMMe13
import Derived.Test.YtmmjkebboonnkaaMMe14
import Derived.Test.YtmmjkebboonnkaaMMe1
set_option linter.unusedVariables false
set_option linter.unusedSimpArgs false
/- F11 -/
namespace Go.Proofs.Ytmmjkebboonnkaa.P
open Go.RowKit Go.Proofs.YtmmjkebboonnkaaW.PrintWords Go.Proofs.YtmmjkebboonnkaaW.PrintLast Go.Proofs.YtmmjkebboonnkaaW.PrintMore
attribute [local go_sem] max2_int min2_int max_two min_two max_three min_three max_four min_four   -- for this text's walks alone
set_option linter.unusedVariables false
set_option linter.unusedSimpArgs false
def weigh_keys.l0 : Nat → List (S49) → List Int → List Int → List Int → Option (List Int × List Int × Int)
 | 0, _, _, _, _ => none
 | k + 1, x0, x7, x9, x10 => if (x10.length : Int) > 0 then (if 0 ≤ (wrap64 ((x10.length : Int) - 1)) then (if (wrap64 ((x10.length : Int) - 1)) < (x10.length : Int) then (if (wrap64 ((x10.length : Int) - 1)) ≤ (x10.length : Int) then ((some (x10.take ((wrap64 ((x10.length : Int) - 1)) : Int).toNat : List Int)).bind fun y173 => (if x9.length < 17592186044416 then ((some (x9 ++ [rd x10 (wrap64 ((x10.length : Int) - 1))] : List Int)).bind fun y176 => (if 0 ≤ (rd x10 (wrap64 ((x10.length : Int) - 1))) then (if (rd x10 (wrap64 ((x10.length : Int) - 1))) < (x0.length : Int) then (if ((J49 x0 (rd x10 (wrap64 ((x10.length : Int) - 1)))).f4) ≥ 0 then ((some (([(J49 x0 (rd x10 (wrap64 ((x10.length : Int) - 1)))).f5, (J49 x0 (rd x10 (wrap64 ((x10.length : Int) - 1)))).f4] : List Int) : List Int)).bind fun y182 => (if y173.length + y182.length < 17592186044416 then (weigh_keys.l0 k x0 x7 y176 (y173 ++ y182)) else (none))) else (weigh_keys.l0 k x0 x7 y176 y173)) else (none)) else (none))) else (none))) else (none)) else (none)) else (none)) else (some (x9, x7, 0))
def weigh_keys.f (k : Nat) (l0 : List (S49)) : Option (List Int × List Int × Int) := (table_Root.f k l0).bind fun bt163 => (if bt163.2 = 4 then (some (([] : List Int), ([] : List Int), 0)) else (if bt163.2 = 0 then ((table_Parents.f k l0).bind fun bt165 => (weigh_keys.l0 k l0 bt165.1 ([] : List Int) (([bt163.1] : List Int)))) else (some (([] : List Int), ([] : List Int), bt163.2))))
theorem weigh_keys.mono_l : ∀ k, (∀ y0 y1 y2 y3, LeO (weigh_keys.l0 k y0 y1 y2 y3) (weigh_keys.l0 (k + 1) y0 y1 y2 y3))
 | 0 => fun _ _ _ _ r h => by simp [weigh_keys.l0] at h
 | k + 1 => by
  have ih0 := weigh_keys.mono_l k
  ·
   intro y0 y1 y2 y3; unfold weigh_keys.l0
   repeat' first
   | (with_reducible exact ih0 _ _ _ _)
   | (with_reducible exact table_Parents.mono _ _)
   | (with_reducible exact table_Root.mono _ _)
   | (with_reducible exact LeO.refl _)
   | (with_reducible exact LeO.none _)
   | (with_reducible refine LeO.ite ?_ ?_)
   | (with_reducible refine LeO.bind ?_ (fun _ => ?_))
   | exact ih0 _ _ _ _
   | exact table_Parents.mono _ _
   | exact table_Root.mono _ _
   | exact LeO.none _
   | refine LeO.ite ?_ ?_
   | refine LeO.bind ?_ (fun _ => ?_)
theorem weigh_keys.mono : ∀ a0 k, LeO (weigh_keys.f k a0) (weigh_keys.f (k + 1) a0) := by
 intro a0 k; have ih0 := weigh_keys.mono_l k; unfold weigh_keys.f
 repeat' first
   | (with_reducible exact ih0 _ _ _ _)
   | (with_reducible exact table_Parents.mono _ _)
   | (with_reducible exact table_Root.mono _ _)
   | (with_reducible exact LeO.refl _)
   | (with_reducible exact LeO.none _)
   | (with_reducible refine LeO.ite ?_ ?_)
   | (with_reducible refine LeO.bind ?_ (fun _ => ?_))
   | exact ih0 _ _ _ _
   | exact table_Parents.mono _ _
   | exact table_Root.mono _ _
   | exact LeO.none _
   | refine LeO.ite ?_ ?_
   | refine LeO.bind ?_ (fun _ => ?_)
def weigh_keys.T14 : Bool × List (List Nat × List Nat) := (true, [([], []), ([], []), ([], []), ([1, 2], [1, 2]), ([3], [3]), ([4], [4]), ([], []), ([], []), ([6, 7], [6, 7]), ([8], [8]), ([9], [9]), ([5, 10], [5, 10]), ([0, 11], [0, 11]), ([12, 12, 0, 1, 2, 3, 4, 5, 6, 7, 8, 9, 10, 11, 12], [0, 12])])
def weigh_keys.B14 : List Nat := [0, 0, 0, 6, 14, 30, 0, 0, 192, 448, 960, 2046, 4095, 8191]
theorem weigh_keys.tab14 : rtab .any (opsOf Try.f51 14) = weigh_keys.T14 := by kernel_rfl
theorem weigh_keys.bits14 : waitsOk weigh_keys.T14.2 weigh_keys.B14 = true := by kernel_rfl
set_option maxHeartbeats 8000000 in
set_option maxRecDepth 100000 in
theorem weigh_keys.calls (k : Nat) (A0 : Option Addr) (c0 : Nat) (l0 : List (S49)) (r1 : List Int) (r2 : List Int) (r3 : Int) (w : World) (hr0 : Kd.C k49 w A0 l0.length l0) (hc0 : l0.length ≤ c0) (h : weigh_keys.f k l0 = some (r1, r2, r3)) :
  Calls Try.prog 51 #[.slice A0 l0.length c0] w fun e w' => ∃ v0_ v1_ : Value, e = .returned (.tuple #[v0_, v1_, .int .i64 r3]) ∧ Kd.R (Kd.int .i64) 3 w' w.heap.size (fun k_ => some k_ ≠ (v1_ : Value).ownBlock) v0_ r1 ∧ Kd.R (Kd.int .i64) 3 w' w.heap.size (fun k_ => some k_ ≠ (v0_ : Value).ownBlock) v1_ r2 ∧ Below w.heap.size w w' := by
 have HR0 := asd hr0; have HC0 := asd hc0; clear hr0 hc0; have HB := asd (Below.refl w.heap.size w); have H : ((table_Root.f k l0).bind fun bt163 => (if bt163.2 = 4 then (some (([] : List Int), ([] : List Int), 0)) else (if bt163.2 = 0 then ((table_Parents.f k l0).bind fun bt165 => (weigh_keys.l0 k l0 bt165.1 ([] : List Int) (([bt163.1] : List Int)))) else (some (([] : List Int), ([] : List Int), bt163.2))))) = some (r1, r2, r3) := h; clear h; replace H := Option.bind_eq_some_iff.mp H; obtain ⟨⟨t163, t164⟩, A20, H⟩ := H; replace H : (if t164 = 4 then (some (([] : List Int), ([] : List Int), 0)) else (if t164 = 0 then ((table_Parents.f k l0).bind fun bt165 => (weigh_keys.l0 k l0 bt165.1 ([] : List Int) (([t163] : List Int)))) else (some (([] : List Int), ([] : List Int), t164)))) = some (r1, r2, r3) := H; have A2 := asd A20; clear A20; by_cases c3 : t164 = 4
 ·
  rw [if_pos c3] at H; have c3b0 : (t164 == 4) = true := beq_iff_eq.mpr c3; have c3b1 : (t164 != 4) = false := bne_eq_false_iff_eq.mpr c3; clear c3; simp only [Option.some.injEq, Prod.mk.injEq] at H; obtain ⟨rfl, rfl, rfl⟩ := H; go_enter Try.func51, Try.ntmps51
  go_wp2_with (first | ((with_reducible refine gate_callee (f := 62) rfl ?_); refine goesL_ (some 14) rfl rfl Try.func62 (by kernel_rfl) rfl #[.slice A0 l0.length c0] rfl ags ?_; (with_reducible refine (table_Root.calls k _ _ l0 t163 t164 _ ?side1 ?side2 A2.out).mono ?_); (case side1 => exact skC HR0.out); (case side2 => exact HC0.out); rintro e w4 ⟨rfl, hb⟩; refine ⟨_, rfl, ?_⟩; have n0_ := asd (below_step (skB HB.out) hb); clear HB; have HB := n0_; clear n0_; (try clear hb); (try clear hb2); (try clear hk); (try clear hi)))
  go_ret3
  exact ⟨_, _, re, by first | exact Kd.R_nil _ _ _ _ _ | exact Kd.N_nil _ _ _ _ _ | exact Kd.V_nil _ _ _ _ _ | exact Kd.Q_nil _ _ _ _ _ | exact Kd.S_nil _ _ _ _ _, by first | exact Kd.R_nil _ _ _ _ _ | exact Kd.N_nil _ _ _ _ _ | exact Kd.V_nil _ _ _ _ _ | exact Kd.Q_nil _ _ _ _ _ | exact Kd.S_nil _ _ _ _ _, skB HB.out⟩
 ·
  rw [if_neg c3] at H; have c3b0 : (t164 == 4) = false := beq_eq_false_iff_ne.mpr c3; have c3b1 : (t164 != 4) = true := bne_iff_ne.mpr c3; by_cases c5 : t164 = 0
  ·
   rw [if_pos c5] at H; have c5b0 : (t164 == 0) = true := beq_iff_eq.mpr c5; have c5b1 : (t164 != 0) = false := bne_eq_false_iff_eq.mpr c5; clear c5; replace H := Option.bind_eq_some_iff.mp H; obtain ⟨⟨t165, t166⟩, A60, H⟩ := H; replace H : (weigh_keys.l0 k l0 t165 ([] : List Int) (([t163] : List Int))) = some (r1, r2, r3) := H; have A6 := asd A60; clear A60; obtain ⟨y169, hy169⟩ : ∃ y_ : List Int, y_ = (([t163] : List Int)) := ⟨_, rfl⟩; replace H : (weigh_keys.l0 k l0 t165 ([] : List Int) y169) = some (r1, r2, r3) := by first | (rw [hy169]; with_reducible exact H) | (have H2_ := (Option.bind_some _ _).symm.trans H; rw [hy169]; with_reducible exact H2_) | (have H2_ := (Option.bind_some _ _).symm.trans H; with_reducible exact H2_) | with_reducible exact H | (rw [hy169]; exact H) | exact H
   have Ny169 := asd hy169; clear hy169; have H' := asd H; clear H; go_enter Try.func51, Try.ntmps51
   go_wp2_with (first | ((with_reducible refine gate_callee (f := 62) rfl ?_); refine goesL_ (some 14) rfl rfl Try.func62 (by kernel_rfl) rfl #[.slice A0 l0.length c0] rfl ags ?_; (with_reducible refine (table_Root.calls k _ _ l0 t163 t164 _ ?side1 ?side2 A2.out).mono ?_); (case side1 => exact skC HR0.out); (case side2 => exact HC0.out); rintro e w7 ⟨rfl, hb⟩; refine ⟨_, rfl, ?_⟩; have n0_ := asd (below_step (skB HB.out) hb); clear HB; have HB := n0_; clear n0_; (try clear hb); (try clear hb2); (try clear hk); (try clear hi)) | ((with_reducible refine gate_callee (f := 63) rfl ?_); refine goesL_ (some 24) rfl rfl Try.func63 (by kernel_rfl) rfl #[.slice A0 l0.length c0] rfl ags ?_; (with_reducible refine (table_Parents.calls k _ _ l0 t165 t166 _ ?side1 ?side2 A6.out).mono ?_); (case side1 => exact skC (Kd.C_below HR0.out HB.out)); (case side2 => exact HC0.out); rintro e w8 ⟨v167, rfl, ho0, hb⟩; refine ⟨_, rfl, ?_⟩; have n0_ := asd (Kd.R_lower ho0 (below_size (skB HB.out))); have n1_ := asd (below_step (skB HB.out) hb); clear HB; have HO168 := n0_; have HB := n1_; clear n0_ n1_; (try clear hb); (try clear hb2); (try clear hk); (try clear hi); (try clear ho0)) | ((with_reducible refine gate_dst (N := 28) rfl ?_); refine Kd.R_lit (Kd.int .i64) _ 3 ?hg (N := 28) ?hd (xs := ([t163] : List Int)) (inner := [.int .i64 t163]) (ok := fun _ => True) (okp := fun _ => True) ?hr ?hp (fun _ hk => hk) trivial (Below.refl _ _) (Nat.le_refl _) (by simp) ?_; (case hd => rfl); (case hg => rfl); (case hr => first | (go_simp; done) | (go_simp; rfl)); (case hp => exact (Reps.one (show Kd.M (Kd.int .i64) _ _ _ t163 [.int .i64 t163] from rfl) (Reps.none _ _))); intro v170 w9 ho10 hb hg_ hnew_; clear hg_ hnew_; (first | rw [← Ny169.out] at ho10 | (simp only [Int.reduceToNat] at ho10; rw [← Ny169.out] at ho10)); have n0_ := asd (Kd.R_elder' (skR HO168.out) (Kd.R_base ho10) hb); have n1_ := asd (Kd.R_lower (Kd.R_new' ho10 (Kd.R_lt (skR HO168.out))) (below_size (skB HB.out))); have n2_ := asd (below_step (skB HB.out) hb); clear HO168 HB; have HO168 := n0_; have HO171 := n1_; have HB := n2_; clear n0_ n1_ n2_; clear hb ho10))
   go_loopg [9, 10] k (fun kq v9 v10 w' => ∃ (x9_1 : List Int) (x10_1 : List Int), Aside0 (weigh_keys.l0 kq l0 t165 x9_1 x10_1 = some (r1, r2, r3)) ∧ Aside0 (kq ≤ k) ∧ Aside0 (Kd.R (Kd.int .i64) 3 w' w.heap.size (fun k_ => some k_ ≠ (v9 : Value).ownBlock ∧ some k_ ≠ (v10 : Value).ownBlock) v167 t165) ∧ Aside0 (Kd.R (Kd.int .i64) 3 w' w.heap.size (fun k_ => some k_ ≠ (v167 : Value).ownBlock ∧ some k_ ≠ (v10 : Value).ownBlock) v9 x9_1) ∧ Aside0 (Kd.R (Kd.int .i64) 3 w' w.heap.size (fun k_ => some k_ ≠ (v167 : Value).ownBlock ∧ some k_ ≠ (v9 : Value).ownBlock) v10 x10_1) ∧ Aside0 (Below w.heap.size w w'))
   case atStart => exact ⟨(([] : List Int)), (y169), H', ⟨Nat.le_refl _⟩, ⟨skR (Kd.R_mono HO168.out (fun _ hk => ⟨(by simp [Value.ownBlock]), hk.2⟩))⟩, ⟨by first | exact Kd.R_nil _ _ _ _ _ | exact Kd.N_nil _ _ _ _ _ | exact Kd.V_nil _ _ _ _ _ | exact Kd.Q_nil _ _ _ _ _ | exact Kd.S_nil _ _ _ _ _⟩, ⟨skR (Kd.R_mono HO171.out (fun _ hk => ⟨hk.2, (by simp [Value.ownBlock])⟩))⟩, ⟨skB HB.out⟩⟩
   case round =>
    clear H'; (try clear p2); (try clear c3); (try clear c3b0); (try clear c3b1); (try clear c5); (try clear c5b0); (try clear c5b1); (try clear c6); obtain ⟨x9_1, x10_1, HA, HK1, HO_7, HO_9, HO_10, HB⟩ := hrel; cases gk with
    | zero => exact absurd HA.out (by simp [weigh_keys.l0])
    | succ k1 =>
     have H := HA.out; clear HA; simp only [weigh_keys.l0] at H; by_cases c11 : (x10_1.length : Int) > 0
     ·
      rw [if_pos c11] at H; have c11b0 : decide (0 < (x10_1.length : Int)) = true := decide_eq_true c11; have c11b1 : decide (0 < x10_1.length) = true := decide_eq_true (by omega); clear c11; obtain ⟨ji12, hji12⟩ : ∃ j_ : Int, (wrap64 ((x10_1.length : Int) - 1)) = j_ := ⟨_, rfl⟩; replace H : (if 0 ≤ (ji12) then (if (ji12) < (x10_1.length : Int) then (if (ji12) ≤ (x10_1.length : Int) then ((some (x10_1.take ((ji12) : Int).toNat : List Int)).bind fun y173 => (if x9_1.length < 17592186044416 then ((some (x9_1 ++ [rd x10_1 (ji12)] : List Int)).bind fun y176 => (if 0 ≤ (rd x10_1 (ji12)) then (if (rd x10_1 (ji12)) < (l0.length : Int) then (if ((J49 l0 (rd x10_1 (ji12))).f4) ≥ 0 then ((some (([(J49 l0 (rd x10_1 (ji12))).f5, (J49 l0 (rd x10_1 (ji12))).f4] : List Int) : List Int)).bind fun y182 => (if y173.length + y182.length < 17592186044416 then (weigh_keys.l0 k1 l0 t165 y176 (y173 ++ y182)) else (none))) else (weigh_keys.l0 k1 l0 t165 y176 y173)) else (none)) else (none))) else (none))) else (none)) else (none)) else (none)) = some (r1, r2, r3) := by first | (rw [hji12] at H; exact H) | (simp only [hji12] at H ⊢; exact H)
      have hji12w : (IntKind.i64.wrap ((x10_1.length : Int) - 1)) = ji12 := (i64_w _).trans hji12; by_cases c13 : 0 ≤ (ji12)
      ·
       rw [if_pos c13] at H; have c13b0 : decide (0 ≤ (ji12)) = true := decide_eq_true c13; clear c13; by_cases c14 : (ji12) < (x10_1.length : Int)
       ·
        rw [if_pos c14] at H; have c14b0 : decide ((ji12) < (x10_1.length : Int)) = true := decide_eq_true c14; clear c14; by_cases c15 : (ji12) ≤ (x10_1.length : Int)
        ·
         rw [if_pos c15] at H; have c15b0 := eq_true c15; have c15b1 : decide ((ji12) ≤ (x10_1.length : Int)) = true := decide_eq_true c15; clear c15; obtain ⟨y173, hy173⟩ : ∃ y_ : List Int, y_ = (x10_1.take ((ji12) : Int).toNat) := ⟨_, rfl⟩; replace H : (if x9_1.length < 17592186044416 then ((some (x9_1 ++ [rd x10_1 (ji12)] : List Int)).bind fun y176 => (if 0 ≤ (rd x10_1 (ji12)) then (if (rd x10_1 (ji12)) < (l0.length : Int) then (if ((J49 l0 (rd x10_1 (ji12))).f4) ≥ 0 then ((some (([(J49 l0 (rd x10_1 (ji12))).f5, (J49 l0 (rd x10_1 (ji12))).f4] : List Int) : List Int)).bind fun y182 => (if y173.length + y182.length < 17592186044416 then (weigh_keys.l0 k1 l0 t165 y176 (y173 ++ y182)) else (none))) else (weigh_keys.l0 k1 l0 t165 y176 y173)) else (none)) else (none))) else (none)) = some (r1, r2, r3) := by first | (rw [hy173]; with_reducible exact H) | (have H2_ := (Option.bind_some _ _).symm.trans H; rw [hy173]; with_reducible exact H2_) | (have H2_ := (Option.bind_some _ _).symm.trans H; with_reducible exact H2_) | with_reducible exact H | (rw [hy173]; exact H) | exact H
         have Ny173 := asd hy173; clear hy173; by_cases c16 : x9_1.length < 17592186044416
         ·
          rw [if_pos c16] at H; have LMc16 := asd c16; clear c16; obtain ⟨y176, hy176⟩ : ∃ y_ : List Int, y_ = (x9_1 ++ [rd x10_1 (ji12)]) := ⟨_, rfl⟩; replace H : (if 0 ≤ (rd x10_1 (ji12)) then (if (rd x10_1 (ji12)) < (l0.length : Int) then (if ((J49 l0 (rd x10_1 (ji12))).f4) ≥ 0 then ((some (([(J49 l0 (rd x10_1 (ji12))).f5, (J49 l0 (rd x10_1 (ji12))).f4] : List Int) : List Int)).bind fun y182 => (if y173.length + y182.length < 17592186044416 then (weigh_keys.l0 k1 l0 t165 y176 (y173 ++ y182)) else (none))) else (weigh_keys.l0 k1 l0 t165 y176 y173)) else (none)) else (none)) = some (r1, r2, r3) := by first | (rw [hy176]; with_reducible exact H) | (have H2_ := (Option.bind_some _ _).symm.trans H; rw [hy176]; with_reducible exact H2_) | (have H2_ := (Option.bind_some _ _).symm.trans H; with_reducible exact H2_) | with_reducible exact H | (rw [hy176]; exact H) | exact H
          have Ny176 := asd hy176; clear hy176; by_cases c17 : 0 ≤ (rd x10_1 (ji12))
          ·
           rw [if_pos c17] at H; have c17b0 : decide (0 ≤ (rd x10_1 (ji12))) = true := decide_eq_true c17; clear c17; by_cases c18 : (rd x10_1 (ji12)) < (l0.length : Int)
           ·
            rw [if_pos c18] at H; have c18b0 : decide ((rd x10_1 (ji12)) < (l0.length : Int)) = true := decide_eq_true c18; clear c18; by_cases c19 : ((J49 l0 (rd x10_1 (ji12))).f4) ≥ 0
            ·
             rw [if_pos c19] at H; have c19b0 : decide (0 ≤ ((J49 l0 (rd x10_1 (ji12))).f4)) = true := decide_eq_true c19; clear c19; obtain ⟨y182, hy182⟩ : ∃ y_ : List Int, y_ = (([(J49 l0 (rd x10_1 (ji12))).f5, (J49 l0 (rd x10_1 (ji12))).f4] : List Int)) := ⟨_, rfl⟩; replace H : (if y173.length + y182.length < 17592186044416 then (weigh_keys.l0 k1 l0 t165 y176 (y173 ++ y182)) else (none)) = some (r1, r2, r3) := by first | (rw [hy182]; with_reducible exact H) | (have H2_ := (Option.bind_some _ _).symm.trans H; rw [hy182]; with_reducible exact H2_) | (have H2_ := (Option.bind_some _ _).symm.trans H; with_reducible exact H2_) | with_reducible exact H | (rw [hy182]; exact H) | exact H
             have Ny182 := asd hy182; clear hy182; by_cases c20 : y173.length + y182.length < 17592186044416
             ·
              rw [if_pos c20] at H; have LMc20 := asd c20; clear c20; obtain ⟨y185, hy185⟩ : ∃ y_ : List Int, y_ = (y173 ++ y182) := ⟨_, rfl⟩; replace H : (weigh_keys.l0 k1 l0 t165 y176 y185) = some (r1, r2, r3) := by first | (rw [hy185]; with_reducible exact H) | (have H2_ := (Option.bind_some _ _).symm.trans H; rw [hy185]; with_reducible exact H2_) | (have H2_ := (Option.bind_some _ _).symm.trans H; with_reducible exact H2_) | with_reducible exact H | (rw [hy185]; exact H) | exact H
              have Ny185 := asd hy185; clear hy185; have H' := asd H; clear H; obtain ⟨Ao21, co21, eo21⟩ := Kd.R_slice HO_10.out; subst eo21; have p172 : 0 ≤ ((ji12) : Int) := dt; have q172 : (ji12) < (x10_1.length : Int) := dt; obtain ⟨ad172, e172, hx172_0⟩ := Kd.at_int (Kd.R_reads' HO_10.out).2.2 (ji12) p172 q172; cases e172; replace p172 := eq_true p172; replace q172 := eq_true q172; have q22 : ((ji12) : Int) ≤ ((x10_1.length : Int) : Int) := dt; obtain ⟨i022, hi022, _, hsz22, _⟩ := info_parts info3; have hcut22 := cut_to (P := Try.prog) 23 3 .i64 Try.underlying23 hi022 (some ad172) x10_1.length co21 (ji12) dt q22 (Kd.R_reads' HO_10.out).2.1; have hr22 := Kd.R_take (m := ((ji12) : Int).toNat) HO_10.out (by omega); have hy22 : y173.length = ((ji12) : Int).toNat := (by rw [Ny173.out, List.length_take]; omega); rw [← Ny173.out] at hr22; rw [← hy22] at hr22 hcut22; clear hy22 hi022 hsz22 HO_10; have HO175 := asd hr22; clear hr22; replace q22 := eq_true q22; try go_wp2_with (first | ((with_reducible refine gate_builtin (b := .append) (xs := #[.tmp 43, .tmp 45]) rfl ?_); at_builtin; refine Kd.R_append (Kd.int .i64) (w0 := w) w.heap.size rfl (.tmp 43) (.tmp 45) 23 3 (.int .i64 0) 8 rfl Try.underlying23 info3 rfl (by decide) (by omega) u9 x9_1 (rd x10_1 (ji12)) [.int .i64 (rd x10_1 (ji12))] (fun k_ => some k_ ≠ (v167 : Value).ownBlock ∧ some k_ ≠ (.slice (some ad172) y173.length co21 : Value).ownBlock) (fun _ => False) rfl rfl ?aP (fun _ hk => hk.elim) ?aF ?aO ?aB ?aS ?aL ?_; (case aP => exact rfl); (case aB => exact (skB HB.out)); (case aF => exact (fun k_ hk => ⟨Kd.fresh' (Kd.R_lt (skR HO_7.out)) k_ hk, Kd.fresh' (Kd.R_lt (skR HO175.out)) k_ hk⟩)); (case aO => exact (skR HO_9.out)); (case aS => exact (below_size (skB HB.out))); (case aL => have := LMc16.out; omega); intro v177 w23 ho hb hg hat; rw [← Ny176.out] at ho; have n0_ := asd (Kd.R_after (ok := (fun k_ => some k_ ≠ (.slice (some ad172) y173.length co21 : Value).ownBlock)) (skR (Kd.R_mono HO_7.out (fun _ hk => ⟨hk.2, hk.1⟩))) hg hat); have n1_ := asd (Kd.R_after (ok := (fun k_ => some k_ ≠ (v167 : Value).ownBlock)) (skR HO175.out) hg hat); have n2_ := asd (hb); have n3_ := asd (ho); clear HO_7 HO175 HB HO_9; have HO_7 := n0_; have HO175 := n1_; have HB := n2_; have HO178 := n3_; clear n0_ n1_ n2_ n3_ ho hb hg hat; have p179 : 0 ≤ ((rd x10_1 (ji12)) : Int) := dt; have q179 : (rd x10_1 (ji12)) < (l0.length : Int) := dt; obtain ⟨ad179, e179, hx179_0, hx179_1, hx179_2, hx179_3, hx179_4, hx179_5⟩ := at_T49 HR0.out (rd x10_1 (ji12)) p179 q179; cases e179; replace hx179_0 := skc HB.out hx179_0; replace hx179_1 := skc HB.out hx179_1; replace hx179_2 := skc HB.out hx179_2; replace hx179_3 := skc HB.out hx179_3; replace hx179_4 := skc HB.out hx179_4; replace hx179_5 := skc HB.out hx179_5; replace p179 := eq_true p179; replace q179 := eq_true q179))
              have n0_ := asd (Kd.R_drew HO_7.out); have n1_ := asd (Kd.R_drew HO175.out); have n2_ := asd (Kd.R_drew HO178.out); have n3_ := asd (below_drew1 HB.out); clear HO_7 HO175 HO178 HB; have HO_7 := n0_; have HO175 := n1_; have HO178 := n2_; have HB := n3_; clear n0_ n1_ n2_ n3_; have p180 : 0 ≤ ((rd x10_1 (ji12)) : Int) := dt; have q180 : (rd x10_1 (ji12)) < (l0.length : Int) := dt; obtain ⟨ad180, e180, hx180_0, hx180_1, hx180_2, hx180_3, hx180_4, hx180_5⟩ := at_T49 HR0.out (rd x10_1 (ji12)) p180 q180; have hw180_5 := hx180_5; have hw180_4 := hx180_4; have hw180_3 := hx180_3; have hw180_2 := hx180_2; have hw180_1 := hx180_1; have hw180_0 := hx180_0; obtain rfl : ad179 = ad180 := (by injection e180); replace hx180_0 := skc HB.out hx180_0; replace hx180_1 := skc HB.out hx180_1; replace hx180_2 := skc HB.out hx180_2; replace hx180_3 := skc HB.out hx180_3; replace hx180_4 := skc HB.out hx180_4; replace hx180_5 := skc HB.out hx180_5; replace p180 := eq_true p180; replace q180 := eq_true q180; have p181 : 0 ≤ ((rd x10_1 (ji12)) : Int) := dt; have q181 : (rd x10_1 (ji12)) < (l0.length : Int) := dt; obtain ⟨ad181, e181, hx181_0, hx181_1, hx181_2, hx181_3, hx181_4, hx181_5⟩ := at_T49 HR0.out (rd x10_1 (ji12)) p181 q181; have hw181_5 := hx181_5; have hw181_4 := hx181_4; have hw181_3 := hx181_3; have hw181_2 := hx181_2; have hw181_1 := hx181_1; have hw181_0 := hx181_0; obtain rfl : ad179 = ad181 := (by injection e181); replace hx181_0 := skc HB.out hx181_0; replace hx181_1 := skc HB.out hx181_1; replace hx181_2 := skc HB.out hx181_2; replace hx181_3 := skc HB.out hx181_3; replace hx181_4 := skc HB.out hx181_4; replace hx181_5 := skc HB.out hx181_5; replace p181 := eq_true p181; replace q181 := eq_true q181; refine start_ (n := 14) (S := fun w' => w'.cell? (ad179.add (((rd x10_1 (ji12))).toNat * 6)) = some (.int .i64 ((J49 l0 (rd x10_1 (ji12))).f0)) ∧ w'.cell? ⟨(ad179.add (((rd x10_1 (ji12))).toNat * 6)).block, (ad179.add (((rd x10_1 (ji12))).toNat * 6)).off + 1, none⟩ = some (.int .i64 ((J49 l0 (rd x10_1 (ji12))).f1)) ∧ w'.cell? ⟨(ad179.add (((rd x10_1 (ji12))).toNat * 6)).block, (ad179.add (((rd x10_1 (ji12))).toNat * 6)).off + 2, none⟩ = some (.int .i64 ((J49 l0 (rd x10_1 (ji12))).f2)) ∧ w'.cell? ⟨(ad179.add (((rd x10_1 (ji12))).toNat * 6)).block, (ad179.add (((rd x10_1 (ji12))).toNat * 6)).off + 3, none⟩ = some (.int .i64 ((J49 l0 (rd x10_1 (ji12))).f3)) ∧ w'.cell? ⟨(ad179.add (((rd x10_1 (ji12))).toNat * 6)).block, (ad179.add (((rd x10_1 (ji12))).toNat * 6)).off + 4, none⟩ = some (.int .i64 ((J49 l0 (rd x10_1 (ji12))).f4)) ∧ w'.cell? ⟨(ad179.add (((rd x10_1 (ji12))).toNat * 6)).block, (ad179.add (((rd x10_1 (ji12))).toNat * 6)).off + 5, none⟩ = some (.int .i64 ((J49 l0 (rd x10_1 (ji12))).f5)) ∧ w'.cell? (ad179.add (((rd x10_1 (ji12))).toNat * 6)) = some (.int .i64 ((J49 l0 (rd x10_1 (ji12))).f0)) ∧ w'.cell? ⟨(ad179.add (((rd x10_1 (ji12))).toNat * 6)).block, (ad179.add (((rd x10_1 (ji12))).toNat * 6)).off + 1, none⟩ = some (.int .i64 ((J49 l0 (rd x10_1 (ji12))).f1)) ∧ w'.cell? ⟨(ad179.add (((rd x10_1 (ji12))).toNat * 6)).block, (ad179.add (((rd x10_1 (ji12))).toNat * 6)).off + 2, none⟩ = some (.int .i64 ((J49 l0 (rd x10_1 (ji12))).f2)) ∧ w'.cell? ⟨(ad179.add (((rd x10_1 (ji12))).toNat * 6)).block, (ad179.add (((rd x10_1 (ji12))).toNat * 6)).off + 3, none⟩ = some (.int .i64 ((J49 l0 (rd x10_1 (ji12))).f3)) ∧ w'.cell? ⟨(ad179.add (((rd x10_1 (ji12))).toNat * 6)).block, (ad179.add (((rd x10_1 (ji12))).toNat * 6)).off + 4, none⟩ = some (.int .i64 ((J49 l0 (rd x10_1 (ji12))).f4)) ∧ w'.cell? ⟨(ad179.add (((rd x10_1 (ji12))).toNat * 6)).block, (ad179.add (((rd x10_1 (ji12))).toNat * 6)).off + 5, none⟩ = some (.int .i64 ((J49 l0 (rd x10_1 (ji12))).f5))) (ds := []) #[false,false,false,false,false,false,false,false,false,false,false,false,false,false] (by kernel_rfl) rfl rfl ⟨(skc HB.out hw180_0), (skc HB.out hw180_1), (skc HB.out hw180_2), (skc HB.out hw180_3), (skc HB.out hw180_4), (skc HB.out hw180_5), (skc HB.out hw181_0), (skc HB.out hw181_1), (skc HB.out hw181_2), (skc HB.out hw181_3), (skc HB.out hw181_4), (skc HB.out hw181_5)⟩ (fun hHeld => ?_); refine with_tabW weigh_keys.tab14 weigh_keys.bits14 (fun HT_ HW_ => ?_); generalize w23.drew = w24 at HO_7 HO175 HO178 HB hx180_0 hx180_1 hx180_2 hx180_3 hx180_4 hx180_5 hx181_0 hx181_1 hx181_2 hx181_3 hx181_4 hx181_5 hHeld ⊢; refine pure_ (i := 0) (N := some 53) (v := ?_) (a' := ?_) #[true,false,false,false,false,false,false,false,false,false,false,false,false,false] rfl rfl (aK HT_.out) (fun _ _ _ h => h) (Or.inl ⟨by rfl, ?_⟩) ?_ ?_; rotate_left
              · intro w'; go_simp; with_reducible rfl
              rotate_left
              · simp only [Act.put, sp]; rfl
              refine pure_ (i := 1) (N := some 54) (v := ?_) (a' := ?_) #[true,true,false,false,false,false,false,false,false,false,false,false,false,false] rfl rfl (aK HT_.out) (fun _ _ _ h => h) (Or.inl ⟨by rfl, ?_⟩) ?_ ?_; rotate_left
              · intro w'; go_simp; with_reducible rfl
              rotate_left
              · simp only [Act.put, sp]; rfl
              refine pure_ (i := 2) (N := some 55) (v := ?_) (a' := ?_) #[true,true,true,false,false,false,false,false,false,false,false,false,false,false] rfl rfl (aK HT_.out) (fun _ _ _ h => h) (Or.inl ⟨by rfl, ?_⟩) ?_ ?_; rotate_left
              · intro w'; go_simp; with_reducible rfl
              rotate_left
              · simp only [Act.put, sp]; rfl
              refine pure_ (i := 3) (N := some 56) (v := ?_) (a' := ?_) #[true,true,true,true,false,false,false,false,false,false,false,false,false,false] rfl rfl (aK HT_.out) (fun _ _ _ h => h) (Or.inl ⟨by rfl, ?_⟩) ?_ ?_; rotate_left
              · intro w'; go_simp; with_reducible rfl
              rotate_left
              · simp only [Act.put, sp]; rfl
              refine pure_ (i := 4) (N := some 57) (v := ?_) (a' := ?_) #[true,true,true,true,true,false,false,false,false,false,false,false,false,false] rfl rfl (aK HT_.out) (fun _ _ _ h => h) (Or.inl ⟨by rfl, ?_⟩) ?_ ?_; rotate_left
              · intro w'; go_simp; with_reducible rfl
              rotate_left
              · simp only [Act.put, sp]; rfl
              refine pure_ (i := 6) (N := some 59) (v := ?_) (a' := ?_) #[true,true,true,true,true,false,true,false,false,false,false,false,false,false] rfl rfl (aK HT_.out) (fun _ _ _ h => h) (Or.inl ⟨by rfl, ?_⟩) ?_ ?_; rotate_left
              · intro w'; go_simp; with_reducible rfl
              rotate_left
              · simp only [Act.put, sp]; rfl
              refine pure_ (i := 7) (N := some 60) (v := ?_) (a' := ?_) #[true,true,true,true,true,false,true,true,false,false,false,false,false,false] rfl rfl (aK HT_.out) (fun _ _ _ h => h) (Or.inl ⟨by rfl, ?_⟩) ?_ ?_; rotate_left
              · intro w'; go_simp; with_reducible rfl
              rotate_left
              · simp only [Act.put, sp]; rfl
              refine pure_ (i := 8) (N := some 61) (v := ?_) (a' := ?_) #[true,true,true,true,true,false,true,true,true,false,false,false,false,false] rfl rfl (aK HT_.out) (fun _ _ _ h => h) (Or.inl ⟨by rfl, ?_⟩) ?_ ?_; rotate_left
              · intro w'; go_simp; with_reducible rfl
              rotate_left
              · simp only [Act.put, sp]; rfl
              refine pure_ (i := 9) (N := some 62) (v := ?_) (a' := ?_) #[true,true,true,true,true,false,true,true,true,true,false,false,false,false] rfl rfl (aK HT_.out) (fun _ _ _ h => h) (Or.inl ⟨by rfl, ?_⟩) ?_ ?_; rotate_left
              · intro w'; go_simp; with_reducible rfl
              rotate_left
              · simp only [Act.put, sp]; rfl
              refine take_ (i := 5) (N := some 58) (v := ?_) (a' := ?_) #[true,true,true,true,true,true,true,true,true,true,false,false,false,false] rfl rfl (take_ofW HT_.out HW_.out (by kernel_rfl)) (fun _ _ _ h => h) (Or.inl ⟨by rfl, ?_⟩) hHeld ?_ ?_; rotate_left
              · rintro w' ⟨s0, s1, s2, s3, s4, s5, s6, s7, s8, s9, s10, s11⟩; go_simp; with_reducible rfl
              rotate_left
              · simp only [Act.put, sp]; rfl
              refine take_ (i := 10) (N := some 63) (v := ?_) (a' := ?_) #[true,true,true,true,true,true,true,true,true,true,true,false,false,false] rfl rfl (take_ofW HT_.out HW_.out (by kernel_rfl)) (fun _ _ _ h => h) (Or.inl ⟨by rfl, ?_⟩) hHeld ?_ ?_; rotate_left
              · rintro w' ⟨s0, s1, s2, s3, s4, s5, s6, s7, s8, s9, s10, s11⟩; go_simp; with_reducible rfl
              rotate_left
              · simp only [Act.put, sp]; rfl
              refine one_ (i := 11) (N := some 64) #[true,true,true,true,true,true,true,true,true,true,true,true,false,false] rfl rfl (one_of HT_.out (by kernel_rfl)) (by decide) (fun K hK => ?_); refine Kd.R_lit_step (Kd.int .i64) _ 3 ?hg (N := 64) ?hd (xs := ([(J49 l0 (rd x10_1 (ji12))).f5, (J49 l0 (rd x10_1 (ji12))).f4] : List Int)) (inner := [.int .i64 ((J49 l0 (rd x10_1 (ji12))).f5), .int .i64 ((J49 l0 (rd x10_1 (ji12))).f4)]) (ok := fun _ => True) (okp := fun _ => True) ?hr ?hp (fun _ hk => hk) trivial (Below.refl _ _) (Nat.le_refl _) (by simp) ?_; (case hd => rfl); (case hg => rfl); (case hr => first | (go_simp; done) | (go_simp; rfl)); (case hp => exact (Reps.one (show Kd.M (Kd.int .i64) _ _ _ ((J49 l0 (rd x10_1 (ji12))).f5) [.int .i64 ((J49 l0 (rd x10_1 (ji12))).f5)] from rfl) (Reps.one (show Kd.M (Kd.int .i64) _ _ _ ((J49 l0 (rd x10_1 (ji12))).f4) [.int .i64 ((J49 l0 (rd x10_1 (ji12))).f4)] from rfl) (Reps.none _ _)))); intro v183 w25 ho26 hb hg_ hnew_; clear hg_ hnew_
              (first | rw [← Ny182.out] at ho26 | (simp only [Int.reduceToNat] at ho26; rw [← Ny182.out] at ho26))
              have n0_ := asd (Kd.R_elder' (skR HO_7.out) (Kd.R_base ho26) hb); have n1_ := asd (Kd.R_elder' (skR HO175.out) (Kd.R_base ho26) hb); have n2_ := asd (Kd.R_elder' (skR HO178.out) (Kd.R_base ho26) hb); have n3_ := asd (Kd.R_lower (Kd.R_new' (Kd.R_new' (Kd.R_new' ho26 (Kd.R_lt (skR HO_7.out))) (Kd.R_lt (skR HO175.out))) (Kd.R_lt (skR HO178.out))) (below_size (skB HB.out))); have n4_ := asd (below_step (skB HB.out) hb); clear HO_7 HO175 HO178 HB; have HO_7 := n0_; have HO175 := n1_; have HO178 := n2_; have HO184 := n3_; have HB := n4_; clear n0_ n1_ n2_ n3_ n4_ hb ho26; obtain ⟨Ao28, co28, eo28⟩ := Kd.R_slice HO184.out
              (first | subst eo28 | (injection eo28 with f1_ f2_ f3_; have f4_ := f1_.symm; have f5_ := f3_.symm; clear f1_ f2_ f3_; subst f4_; subst f5_))
              refine hK.out _ _ ⟨(skc HB.out hw180_0), (skc HB.out hw180_1), (skc HB.out hw180_2), (skc HB.out hw180_3), (skc HB.out hw180_4), (skc HB.out hw180_5), (skc HB.out hw181_0), (skc HB.out hw181_1), (skc HB.out hw181_2), (skc HB.out hw181_3), (skc HB.out hw181_4), (skc HB.out hw181_5)⟩ (fun hHeld => ?_); clear hK K; refine norm_ (a' := ?_) ?_ ?_; rotate_left
              ·
               show Act.put _ (some 64) _ = _
               simp only [Act.put, sp]; rfl
              refine one_ (i := 12) (N := some 65) #[true,true,true,true,true,true,true,true,true,true,true,true,true,false] rfl rfl (one_of HT_.out (by kernel_rfl)) (by decide) (fun K hK => ?_); refine Kd.R_append_rows_step (Kd.int .i64) (w0 := w) w.heap.size (by rfl) (.tmp 53) (.tmp 64) 23 3 (.int .i64 0) 8 rfl Try.underlying23 info3 rfl (by decide) (by omega) (.slice (some ad172) y173.length co21) y173 y182 _ _ _ (fun k_ => some k_ ≠ (v167 : Value).ownBlock ∧ some k_ ≠ (v177 : Value).ownBlock ∧ some k_ ≠ (.slice Ao28 y182.length co28 : Value).ownBlock) (fun _ => False) rfl rfl ?aO ?aR (fun _ _ h => h) (fun _ h => h.elim) ?aF ?aB ?aS ?aL ?_
              (case aR => exact skC (Kd.R_reads' HO184.out).2.2)
              (case aB => exact (skB HB.out))
              (case aF => exact (fun k_ hk => ⟨Kd.fresh' (Kd.R_lt (skR HO_7.out)) k_ hk, Kd.fresh' (Kd.R_lt (skR HO178.out)) k_ hk, Kd.fresh' (Kd.R_lt (skR HO184.out)) k_ hk⟩))
              (case aO => exact (skR (Kd.R_mono HO175.out (fun _ hk => ⟨hk.1.1, ⟨hk.1.2, hk.2⟩⟩))))
              (case aS => exact (below_size (skB HB.out)))
              (case aL => have := LMc20.out; omega)
              intro v186 w27 ho hb hg hat; rw [← Ny185.out] at ho; have n0_ := asd (Kd.R_after (ok := (fun k_ => some k_ ≠ (v177 : Value).ownBlock ∧ some k_ ≠ (.slice Ao28 y182.length co28 : Value).ownBlock)) (skR (Kd.R_mono HO_7.out (fun _ hk => ⟨⟨hk.1.2, hk.2⟩, hk.1.1⟩))) hg hat); have n1_ := asd (Kd.R_after (ok := (fun k_ => some k_ ≠ (v167 : Value).ownBlock ∧ some k_ ≠ (.slice Ao28 y182.length co28 : Value).ownBlock)) (skR (Kd.R_mono HO178.out (fun _ hk => ⟨⟨hk.1.1, hk.2⟩, hk.1.2⟩))) hg hat); have n2_ := asd (Kd.R_after (ok := (fun k_ => some k_ ≠ (v167 : Value).ownBlock ∧ some k_ ≠ (v177 : Value).ownBlock)) (skR (Kd.R_mono HO184.out (fun _ hk => ⟨⟨hk.1.1.2, hk.2⟩, hk.1.2⟩))) hg hat); have n3_ := asd (hb); have n4_ := asd (ho); clear HO_7 HO178 HO184 HB HO175; have HO_7 := n0_; have HO178 := n1_; have HO184 := n2_; have HB := n3_; have HO187 := n4_; clear n0_ n1_ n2_ n3_ n4_ ho hb hg hat; refine hK.out _ _ ⟨(skc HB.out hw180_0), (skc HB.out hw180_1), (skc HB.out hw180_2), (skc HB.out hw180_3), (skc HB.out hw180_4), (skc HB.out hw180_5), (skc HB.out hw181_0), (skc HB.out hw181_1), (skc HB.out hw181_2), (skc HB.out hw181_3), (skc HB.out hw181_4), (skc HB.out hw181_5)⟩ (fun hHeld => ?_); clear hK K; refine norm_ (a' := ?_) ?_ ?_; rotate_left
              ·
               show Act.put _ (some 65) _ = _
               simp only [Act.put, sp]; rfl
              refine pure_ (i := 13) (N := some 10) (v := ?_) (a' := ?_) #[true,true,true,true,true,true,true,true,true,true,true,true,true,true] rfl rfl (aK HT_.out) (fun _ _ _ h => h) (Or.inl ⟨by rfl, ?_⟩) ?_ ?_; rotate_left
              · intro w'; go_simp; with_reducible rfl
              rotate_left
              · simp only [Act.put, sp]; rfl
              refine done_ (done_of HT_.out (by kernel_rfl)) ?_; try go_wp2
              go_roundg k1
              case measure => have := HK1.out; omega
              case rel => exact ⟨(y176), (y185), H', ⟨by have := HK1.out; omega⟩, ⟨skR (Kd.R_mono HO_7.out (fun _ hk => ⟨hk.1.1, hk.2⟩))⟩, ⟨skR (Kd.R_mono HO178.out (fun _ hk => ⟨hk.1.1, hk.2⟩))⟩, ⟨skR (Kd.R_mono HO187.out (fun _ hk => ⟨hk.1, hk.2.1⟩))⟩, ⟨skB HB.out⟩⟩
             · rw [if_neg c20] at H; exact absurd H (by simp)
            ·
             rw [if_neg c19] at H; have c19b0 : decide (0 ≤ ((J49 l0 (rd x10_1 (ji12))).f4)) = false := decide_eq_false c19; clear c19; have H' := asd H; clear H; obtain ⟨Ao29, co29, eo29⟩ := Kd.R_slice HO_10.out; subst eo29; have p172 : 0 ≤ ((ji12) : Int) := dt; have q172 : (ji12) < (x10_1.length : Int) := dt; obtain ⟨ad172, e172, hx172_0⟩ := Kd.at_int (Kd.R_reads' HO_10.out).2.2 (ji12) p172 q172; cases e172; replace p172 := eq_true p172; replace q172 := eq_true q172; have q30 : ((ji12) : Int) ≤ ((x10_1.length : Int) : Int) := dt; obtain ⟨i030, hi030, _, hsz30, _⟩ := info_parts info3; have hcut30 := cut_to (P := Try.prog) 23 3 .i64 Try.underlying23 hi030 (some ad172) x10_1.length co29 (ji12) dt q30 (Kd.R_reads' HO_10.out).2.1; have hr30 := Kd.R_take (m := ((ji12) : Int).toNat) HO_10.out (by omega); have hy30 : y173.length = ((ji12) : Int).toNat := (by rw [Ny173.out, List.length_take]; omega); rw [← Ny173.out] at hr30; rw [← hy30] at hr30 hcut30; clear hy30 hi030 hsz30 HO_10; have HO175 := asd hr30; clear hr30; replace q30 := eq_true q30; go_wp2_with (first | ((with_reducible refine gate_builtin (b := .append) (xs := #[.tmp 43, .tmp 45]) rfl ?_); at_builtin; refine Kd.R_append (Kd.int .i64) (w0 := w) w.heap.size rfl (.tmp 43) (.tmp 45) 23 3 (.int .i64 0) 8 rfl Try.underlying23 info3 rfl (by decide) (by omega) u9 x9_1 (rd x10_1 (ji12)) [.int .i64 (rd x10_1 (ji12))] (fun k_ => some k_ ≠ (v167 : Value).ownBlock ∧ some k_ ≠ (.slice (some ad172) y173.length co29 : Value).ownBlock) (fun _ => False) rfl rfl ?aP (fun _ hk => hk.elim) ?aF ?aO ?aB ?aS ?aL ?_; (case aP => exact rfl); (case aB => exact (skB HB.out)); (case aF => exact (fun k_ hk => ⟨Kd.fresh' (Kd.R_lt (skR HO_7.out)) k_ hk, Kd.fresh' (Kd.R_lt (skR HO175.out)) k_ hk⟩)); (case aO => exact (skR HO_9.out)); (case aS => exact (below_size (skB HB.out))); (case aL => have := LMc16.out; omega); intro v177 w31 ho hb hg hat; rw [← Ny176.out] at ho; have n0_ := asd (Kd.R_after (ok := (fun k_ => some k_ ≠ (.slice (some ad172) y173.length co29 : Value).ownBlock)) (skR (Kd.R_mono HO_7.out (fun _ hk => ⟨hk.2, hk.1⟩))) hg hat); have n1_ := asd (Kd.R_after (ok := (fun k_ => some k_ ≠ (v167 : Value).ownBlock)) (skR HO175.out) hg hat); have n2_ := asd (hb); have n3_ := asd (ho); clear HO_7 HO175 HB HO_9; have HO_7 := n0_; have HO175 := n1_; have HB := n2_; have HO178 := n3_; clear n0_ n1_ n2_ n3_ ho hb hg hat; have p179 : 0 ≤ ((rd x10_1 (ji12)) : Int) := dt; have q179 : (rd x10_1 (ji12)) < (l0.length : Int) := dt; obtain ⟨ad179, e179, hx179_0, hx179_1, hx179_2, hx179_3, hx179_4, hx179_5⟩ := at_T49 HR0.out (rd x10_1 (ji12)) p179 q179; cases e179; replace hx179_0 := skc HB.out hx179_0; replace hx179_1 := skc HB.out hx179_1; replace hx179_2 := skc HB.out hx179_2; replace hx179_3 := skc HB.out hx179_3; replace hx179_4 := skc HB.out hx179_4; replace hx179_5 := skc HB.out hx179_5; replace p179 := eq_true p179; replace q179 := eq_true q179))
             go_roundg k1
             case measure => have := HK1.out; omega
             case rel => exact ⟨(y176), (y173), H', ⟨by have := HK1.out; omega⟩, ⟨skR (Kd.R_mono HO_7.out (fun _ hk => ⟨hk.2, hk.1⟩))⟩, ⟨skR HO178.out⟩, ⟨skR HO175.out⟩, ⟨skB HB.out⟩⟩
           · rw [if_neg c18] at H; exact absurd H (by simp)
          · rw [if_neg c17] at H; exact absurd H (by simp)
         · rw [if_neg c16] at H; exact absurd H (by simp)
        · rw [if_neg c15] at H; exact absurd H (by simp)
       · rw [if_neg c14] at H; exact absurd H (by simp)
      · rw [if_neg c13] at H; exact absurd H (by simp)
     ·
      rw [if_neg c11] at H; have c11b0 : decide (0 < (x10_1.length : Int)) = false := decide_eq_false c11; have c11b1 : decide (0 < x10_1.length) = false := decide_eq_false (by omega); clear c11; simp only [Option.some.injEq, Prod.mk.injEq] at H; obtain ⟨rfl, rfl, rfl⟩ := H; obtain ⟨Ao32, co32, eo32⟩ := Kd.R_slice HO_10.out; subst eo32; go_wp2
      go_ret3
      exact ⟨_, _, re, skR (Kd.R_mono HO_9.out (fun _ hk => hk.1)), skR (Kd.R_mono HO_7.out (fun _ hk => hk.1)), skB HB.out⟩
  ·
   rw [if_neg c5] at H; have c5b0 : (t164 == 0) = false := beq_eq_false_iff_ne.mpr c5; have c5b1 : (t164 != 0) = true := bne_iff_ne.mpr c5; simp only [Option.some.injEq, Prod.mk.injEq] at H; obtain ⟨rfl, rfl, rfl⟩ := H; go_enter Try.func51, Try.ntmps51
   go_wp2_with (first | ((with_reducible refine gate_callee (f := 62) rfl ?_); refine goesL_ (some 14) rfl rfl Try.func62 (by kernel_rfl) rfl #[.slice A0 l0.length c0] rfl ags ?_; (with_reducible refine (table_Root.calls k _ _ l0 t163 t164 _ ?side1 ?side2 A2.out).mono ?_); (case side1 => exact skC HR0.out); (case side2 => exact HC0.out); rintro e w33 ⟨rfl, hb⟩; refine ⟨_, rfl, ?_⟩; have n0_ := asd (below_step (skB HB.out) hb); clear HB; have HB := n0_; clear n0_; (try clear hb); (try clear hb2); (try clear hk); (try clear hi)))
   go_ret3
   exact ⟨_, _, re, by first | exact Kd.R_nil _ _ _ _ _ | exact Kd.N_nil _ _ _ _ _ | exact Kd.V_nil _ _ _ _ _ | exact Kd.Q_nil _ _ _ _ _ | exact Kd.S_nil _ _ _ _ _, by first | exact Kd.R_nil _ _ _ _ _ | exact Kd.N_nil _ _ _ _ _ | exact Kd.V_nil _ _ _ _ _ | exact Kd.Q_nil _ _ _ _ _ | exact Kd.S_nil _ _ _ _ _, skB HB.out⟩
end Go.Proofs.Ytmmjkebboonnkaa.P
/- F21 -/
namespace Go.Proofs.Ytmmjkebboonnkaa.P
open Go.RowKit Go.Proofs.YtmmjkebboonnkaaW.PrintWords Go.Proofs.YtmmjkebboonnkaaW.PrintLast Go.Proofs.YtmmjkebboonnkaaW.PrintMore
attribute [local go_sem] max2_int min2_int max_two min_two max_three min_three max_four min_four   -- for this text's walks alone
set_option linter.unusedVariables false
set_option linter.unusedSimpArgs false
def weigh_Heavy.l0 : Nat → List Int → List (S49) → List Int → Int → Int → Option ((List (S49)) × Int)
 | 0, _, _, _, _, _ => none
 | k + 1, x6, x9, x29, x30, x31 => if x31 < x30 then (if 0 ≤ x31 then (if x31 < (x29.length : Int) then (if (rd x29 x31) < 0 then (some (([] : List (S49)), 1)) else (if (rd x29 x31) > 1000000 then (some (([] : List (S49)), 1)) else (if x31 < (x6.length : Int) then (if 0 ≤ (rd x6 x31) then (if (rd x6 x31) < (x9.length : Int) then (weigh_Heavy.l0 k x6 (x9.set ((rd x6 x31) : Int).toNat (⟨(J49 x9 (rd x6 x31)).f0, (J49 x9 (rd x6 x31)).f1, rd x29 x31, (J49 x9 (rd x6 x31)).f3, (J49 x9 (rd x6 x31)).f4, (J49 x9 (rd x6 x31)).f5⟩ : S49)) x29 x30 (wrap64 (x31 + 1))) else (none)) else (none)) else (none)))) else (none)) else (none)) else ((table_Norm.f k x9).bind fun bt241 => (some (bt241.1, bt241.2)))
def weigh_Heavy.f (k : Nat) (l0 : List (S49)) (l1 : List Int) : Option ((List (S49)) × Int) := (weigh_keys.f k l0).bind fun bt225 => (if bt225.2.2 = 0 then (if (l1.length : Int) = (bt225.1.length : Int) then ((some (([] : List (S49)) : List (S49))).bind fun y232 => (if y232.length + l0.length < 2932031007402 then (weigh_Heavy.l0 k bt225.1 (y232 ++ l0) l1 (l1.length : Int) 0) else (none))) else (some (([] : List (S49)), 1))) else (some (([] : List (S49)), bt225.2.2)))
theorem weigh_Heavy.mono_l : ∀ k, (∀ y0 y1 y2 y3 y4, LeO (weigh_Heavy.l0 k y0 y1 y2 y3 y4) (weigh_Heavy.l0 (k + 1) y0 y1 y2 y3 y4))
 | 0 => fun _ _ _ _ _ r h => by simp [weigh_Heavy.l0] at h
 | k + 1 => by
  have ih0 := weigh_Heavy.mono_l k
  ·
   intro y0 y1 y2 y3 y4; unfold weigh_Heavy.l0
   repeat' first
   | (with_reducible exact ih0 _ _ _ _ _)
   | (with_reducible exact table_Norm.mono _ _)
   | (with_reducible exact weigh_keys.mono _ _)
   | (with_reducible exact LeO.refl _)
   | (with_reducible exact LeO.none _)
   | (with_reducible refine LeO.ite ?_ ?_)
   | (with_reducible refine LeO.bind ?_ (fun _ => ?_))
   | exact ih0 _ _ _ _ _
   | exact table_Norm.mono _ _
   | exact weigh_keys.mono _ _
   | exact LeO.none _
   | refine LeO.ite ?_ ?_
   | refine LeO.bind ?_ (fun _ => ?_)
theorem weigh_Heavy.mono : ∀ a0 a1 k, LeO (weigh_Heavy.f k a0 a1) (weigh_Heavy.f (k + 1) a0 a1) := by
 intro a0 a1 k; have ih0 := weigh_Heavy.mono_l k; unfold weigh_Heavy.f
 repeat' first
   | (with_reducible exact ih0 _ _ _ _ _)
   | (with_reducible exact table_Norm.mono _ _)
   | (with_reducible exact weigh_keys.mono _ _)
   | (with_reducible exact LeO.refl _)
   | (with_reducible exact LeO.none _)
   | (with_reducible refine LeO.ite ?_ ?_)
   | (with_reducible refine LeO.bind ?_ (fun _ => ?_))
   | exact ih0 _ _ _ _ _
   | exact table_Norm.mono _ _
   | exact weigh_keys.mono _ _
   | exact LeO.none _
   | refine LeO.ite ?_ ?_
   | refine LeO.bind ?_ (fun _ => ?_)
set_option maxHeartbeats 8000000 in
set_option maxRecDepth 100000 in
theorem weigh_Heavy.calls (k : Nat) (A0 : Option Addr) (c0 : Nat) (l0 : List (S49)) (A1 : Option Addr) (c1 : Nat) (l1 : List Int) (r1 : List (S49)) (r2 : Int) (w : World) (hr0 : Kd.C k49 w A0 l0.length l0) (hc0 : l0.length ≤ c0) (hr1 : Kd.C (Kd.int .i64) w A1 l1.length l1) (hc1 : l1.length ≤ c1) (h : weigh_Heavy.f k l0 l1 = some (r1, r2)) :
  Calls Try.prog 21 #[.slice A0 l0.length c0, .slice A1 l1.length c1] w fun e w' => ∃ v0_ : Value, e = .returned (.tuple #[v0_, .int .i64 r2]) ∧ Kd.R k49 49 w' w.heap.size (fun _ => True) v0_ r1 ∧ Below w.heap.size w w' := by
 have HR0 := asd hr0; have HC0 := asd hc0; clear hr0 hc0; have HR1 := asd hr1; have HC1 := asd hc1; clear hr1 hc1; have HB := asd (Below.refl w.heap.size w); have H : ((weigh_keys.f k l0).bind fun bt225 => (if bt225.2.2 = 0 then (if (l1.length : Int) = (bt225.1.length : Int) then ((some (([] : List (S49)) : List (S49))).bind fun y232 => (if y232.length + l0.length < 2932031007402 then (weigh_Heavy.l0 k bt225.1 (y232 ++ l0) l1 (l1.length : Int) 0) else (none))) else (some (([] : List (S49)), 1))) else (some (([] : List (S49)), bt225.2.2)))) = some (r1, r2) := h; clear h; replace H := Option.bind_eq_some_iff.mp H; obtain ⟨⟨t225, t226, t227⟩, A30, H⟩ := H; replace H : (if t227 = 0 then (if (l1.length : Int) = (t225.length : Int) then ((some (([] : List (S49)) : List (S49))).bind fun y232 => (if y232.length + l0.length < 2932031007402 then (weigh_Heavy.l0 k t225 (y232 ++ l0) l1 (l1.length : Int) 0) else (none))) else (some (([] : List (S49)), 1))) else (some (([] : List (S49)), t227))) = some (r1, r2) := H; have A3 := asd A30; clear A30; by_cases c4 : t227 = 0
 ·
  rw [if_pos c4] at H; have c4b0 : (t227 == 0) = true := beq_iff_eq.mpr c4; have c4b1 : (t227 != 0) = false := bne_eq_false_iff_eq.mpr c4; clear c4; by_cases c5 : (l1.length : Int) = (t225.length : Int)
  ·
   rw [if_pos c5] at H; have c5b0 : ((l1.length : Int) == (t225.length : Int)) = true := beq_iff_eq.mpr c5; have c5b1 : ((l1.length : Int) != (t225.length : Int)) = false := bne_eq_false_iff_eq.mpr c5; have c5b2 : (l1.length == t225.length) = true := by first | simpa using c5 | (simp at c5 ⊢; omega)
   clear c5; obtain ⟨y232, hy232⟩ : ∃ y_ : List (S49), y_ = (([] : List (S49))) := ⟨_, rfl⟩; replace H : (if y232.length + l0.length < 2932031007402 then (weigh_Heavy.l0 k t225 (y232 ++ l0) l1 (l1.length : Int) 0) else (none)) = some (r1, r2) := by first | (rw [hy232]; with_reducible exact H) | (have H2_ := (Option.bind_some _ _).symm.trans H; rw [hy232]; with_reducible exact H2_) | (have H2_ := (Option.bind_some _ _).symm.trans H; with_reducible exact H2_) | with_reducible exact H | (rw [hy232]; exact H) | exact H
   have Ny232 := asd hy232; clear hy232; by_cases c6 : y232.length + l0.length < 2932031007402
   ·
    rw [if_pos c6] at H; have LMc6 := asd c6; clear c6; obtain ⟨y235, hy235⟩ : ∃ y_ : List (S49), y_ = (y232 ++ l0) := ⟨_, rfl⟩; replace H : (weigh_Heavy.l0 k t225 y235 l1 (l1.length : Int) 0) = some (r1, r2) := by first | (rw [hy235]; with_reducible exact H) | (have H2_ := (Option.bind_some _ _).symm.trans H; rw [hy235]; with_reducible exact H2_) | (have H2_ := (Option.bind_some _ _).symm.trans H; with_reducible exact H2_) | with_reducible exact H | (rw [hy235]; exact H) | exact H
    have Ny235 := asd hy235; clear hy235; have H' := asd H; clear H; go_enter Try.func21, Try.ntmps21
    go_wp2_with (first | ((with_reducible refine gate_callee (f := 51) rfl ?_); refine goesL_ (some 14) rfl rfl Try.func51 (by kernel_rfl) rfl #[.slice A0 l0.length c0] rfl ags ?_; (with_reducible refine (weigh_keys.calls k _ _ l0 t225 t226 t227 _ ?side1 ?side2 A3.out).mono ?_); (case side1 => exact skC HR0.out); (case side2 => exact HC0.out); rintro e w7 ⟨v228, v230, rfl, ho0, ho1, hb⟩; refine ⟨_, rfl, ?_⟩; have n0_ := asd (Kd.R_lower ho0 (below_size (skB HB.out))); have n1_ := asd (Kd.R_lower ho1 (below_size (skB HB.out))); have n2_ := asd (below_step (skB HB.out) hb); clear HB; have HO229 := n0_; have HO231 := n1_; have HB := n2_; clear n0_ n1_ n2_; (try clear hb); (try clear hb2); (try clear hk); (try clear hi); (try clear ho0); (try clear ho1); obtain ⟨Ao8, co8, eo8⟩ := Kd.R_slice HO229.out; subst eo8) | ((with_reducible refine gate_dst (N := 26) rfl ?_); refine Kd.R_lit k49 _ 49 ?hg (N := 26) ?hd (xs := ([] : List (S49))) (inner := []) (ok := fun _ => True) (okp := fun _ => True) ?hr ?hp (fun _ hk => hk) trivial (Below.refl _ _) (Nat.le_refl _) (by simp) ?_; (case hd => rfl); (case hg => rfl); (case hr => first | (go_simp; done) | (go_simp; rfl)); (case hp => exact (Reps.none _ _)); intro v233 w9 ho10 hb hg_ hnew_; clear hg_ hnew_; (first | rw [← Ny232.out] at ho10 | (simp only [Int.reduceToNat] at ho10; rw [← Ny232.out] at ho10)); have n0_ := asd (Kd.R_below (skR HO229.out) hb); have n1_ := asd (Kd.R_below (skR HO231.out) hb); have n2_ := asd (Kd.R_lower ho10 (below_size (skB HB.out))); have n3_ := asd (below_step (skB HB.out) hb); clear HO229 HO231 HB; have HO229 := n0_; have HO231 := n1_; have HO234 := n2_; have HB := n3_; clear n0_ n1_ n2_ n3_; clear hb ho10) | ((with_reducible refine gate_builtin (b := .append) (xs := #[.tmp 26, .tmp 27]) rfl ?_); at_builtin; refine Kd.R_append_rows k49 (w0 := w) w.heap.size rfl (.tmp 26) (.tmp 27) 22 49 (.agg #[(.int .i64 0), (.int .i64 0), (.int .i64 0), (.int .i64 0), (.int .i64 0), (.int .i64 0)]) 48 rfl Try.underlying22 info49 rfl (by decide) (by omega) v233 y232 l0 _ _ _ (fun _ => True) (fun _ => False) rfl rfl ?aO ?aR (fun _ _ h => h) (fun _ h => h.elim) ?aF ?aB ?aS ?aL ?_; (case aR => exact skC (Kd.C_below HR0.out HB.out)); (case aB => exact (skB HB.out)); (case aF => exact (fun _ _ => trivial)); (case aO => exact (skR HO234.out)); (case aS => exact (below_size (skB HB.out))); (case aL => have := LMc6.out; omega); intro v236 w11 ho hb hg hat; rw [← Ny235.out] at ho; have n0_ := asd (Kd.R_over' (skR HO229.out) (Kd.R_typed (skR HO234.out)) (by decide) hg); have n1_ := asd (Kd.R_over' (skR HO231.out) (Kd.R_typed (skR HO234.out)) (by decide) hg); have n2_ := asd (hb); have n3_ := asd (ho); clear HO229 HO231 HB HO234; have HO229 := n0_; have HO231 := n1_; have HB := n2_; have HO237 := n3_; clear n0_ n1_ n2_ n3_; clear ho hb hg hat))
    go_loopg [31] k (fun kq v31 w' => ∃ (x9_1 : List (S49)) (x31_1 : Int), v31 = .int .i64 x31_1 ∧ Aside0 (weigh_Heavy.l0 kq t225 x9_1 l1 (l1.length : Int) x31_1 = some (r1, r2)) ∧ Aside0 (kq ≤ k) ∧ Aside0 (Kd.R (Kd.int .i64) 3 w' w.heap.size (fun _ => True) (.slice Ao8 t225.length co8) t225) ∧ Aside0 (Kd.R k49 49 w' w.heap.size (fun _ => True) v236 x9_1) ∧ Aside0 (Below w.heap.size w w'))
    case atStart => exact ⟨(y235), (0), rs, H', ⟨Nat.le_refl _⟩, ⟨skR (Kd.R_mono HO229.out (fun _ hk => trivial))⟩, ⟨skR HO237.out⟩, ⟨skB HB.out⟩⟩
    case round =>
     clear H'; (try clear c1); (try clear c2); (try clear p2); (try clear c4); (try clear c4b0); (try clear c4b1); (try clear c5); (try clear c5b0); (try clear c5b1); (try clear c5b2); (try clear c6); obtain ⟨x9_1, x31_1, rfl, HA, HK1, HO_6, HO_9, HB⟩ := hrel; cases gk with
     | zero => exact absurd HA.out (by simp [weigh_Heavy.l0])
     | succ k1 =>
      have H := HA.out; clear HA; simp only [weigh_Heavy.l0] at H; by_cases c12 : x31_1 < (l1.length : Int)
      ·
       rw [if_pos c12] at H; have c12b0 : decide (x31_1 < (l1.length : Int)) = true := decide_eq_true c12; clear c12; by_cases c13 : 0 ≤ x31_1
       ·
        rw [if_pos c13] at H; have c13b0 : decide (0 ≤ x31_1) = true := decide_eq_true c13; clear c13; by_cases c14 : x31_1 < (l1.length : Int)
        ·
         rw [if_pos c14] at H; have c14b0 : decide (x31_1 < (l1.length : Int)) = true := decide_eq_true c14; clear c14; by_cases c15 : (rd l1 x31_1) < 0
         ·
          rw [if_pos c15] at H; have c15b0 : decide ((rd l1 x31_1) < 0) = true := decide_eq_true c15; clear c15; simp only [Option.some.injEq, Prod.mk.injEq] at H; obtain ⟨rfl, rfl⟩ := H; have p238 : 0 ≤ (x31_1 : Int) := dt; have q238 : x31_1 < (l1.length : Int) := dt; obtain ⟨ad238, e238, hx238_0⟩ := Kd.at_int HR1.out x31_1 p238 q238; cases e238; replace hx238_0 := skc HB.out hx238_0; replace p238 := eq_true p238; replace q238 := eq_true q238; go_wp2
          go_ret2
          exact ⟨_, re, by first | exact Kd.R_nil _ _ _ _ _ | exact Kd.N_nil _ _ _ _ _ | exact Kd.V_nil _ _ _ _ _ | exact Kd.Q_nil _ _ _ _ _ | exact Kd.S_nil _ _ _ _ _, skB HB.out⟩
         ·
          rw [if_neg c15] at H; have c15b0 : decide ((rd l1 x31_1) < 0) = false := decide_eq_false c15; clear c15; by_cases c16 : (rd l1 x31_1) > 1000000
          ·
           rw [if_pos c16] at H; have c16b0 : decide (1000000 < (rd l1 x31_1)) = true := decide_eq_true c16; clear c16; simp only [Option.some.injEq, Prod.mk.injEq] at H; obtain ⟨rfl, rfl⟩ := H; have p238 : 0 ≤ (x31_1 : Int) := dt; have q238 : x31_1 < (l1.length : Int) := dt; obtain ⟨ad238, e238, hx238_0⟩ := Kd.at_int HR1.out x31_1 p238 q238; cases e238; replace hx238_0 := skc HB.out hx238_0; replace p238 := eq_true p238; replace q238 := eq_true q238; go_wp2
           go_ret2
           exact ⟨_, re, by first | exact Kd.R_nil _ _ _ _ _ | exact Kd.N_nil _ _ _ _ _ | exact Kd.V_nil _ _ _ _ _ | exact Kd.Q_nil _ _ _ _ _ | exact Kd.S_nil _ _ _ _ _, skB HB.out⟩
          ·
           rw [if_neg c16] at H; have c16b0 : decide (1000000 < (rd l1 x31_1)) = false := decide_eq_false c16; clear c16; by_cases c17 : x31_1 < (t225.length : Int)
           ·
            rw [if_pos c17] at H; have c17b0 : decide (x31_1 < (t225.length : Int)) = true := decide_eq_true c17; clear c17; by_cases c18 : 0 ≤ (rd t225 x31_1)
            ·
             rw [if_pos c18] at H; have c18b0 : decide (0 ≤ (rd t225 x31_1)) = true := decide_eq_true c18; clear c18; by_cases c19 : (rd t225 x31_1) < (x9_1.length : Int)
             ·
              rw [if_pos c19] at H; have c19b0 : decide ((rd t225 x31_1) < (x9_1.length : Int)) = true := decide_eq_true c19; clear c19; obtain ⟨y240, hy240⟩ : ∃ y_ : List (S49), y_ = (x9_1.set ((rd t225 x31_1) : Int).toNat (⟨(J49 x9_1 (rd t225 x31_1)).f0, (J49 x9_1 (rd t225 x31_1)).f1, rd l1 x31_1, (J49 x9_1 (rd t225 x31_1)).f3, (J49 x9_1 (rd t225 x31_1)).f4, (J49 x9_1 (rd t225 x31_1)).f5⟩ : S49)) := ⟨_, rfl⟩; replace H : (weigh_Heavy.l0 k1 t225 y240 l1 (l1.length : Int) (wrap64 (x31_1 + 1))) = some (r1, r2) := by first | (rw [hy240]; with_reducible exact H) | (have H2_ := (Option.bind_some _ _).symm.trans H; rw [hy240]; with_reducible exact H2_) | (have H2_ := (Option.bind_some _ _).symm.trans H; with_reducible exact H2_) | with_reducible exact H | (rw [hy240]; exact H) | exact H
              have Ny240 := asd hy240; clear hy240; have H' := asd H; clear H; have p238 : 0 ≤ (x31_1 : Int) := dt; have q238 : x31_1 < (l1.length : Int) := dt; obtain ⟨ad238, e238, hx238_0⟩ := Kd.at_int HR1.out x31_1 p238 q238; cases e238; replace hx238_0 := skc HB.out hx238_0; replace p238 := eq_true p238; replace q238 := eq_true q238; have p239 : 0 ≤ (x31_1 : Int) := dt; have q239 : x31_1 < (t225.length : Int) := dt; obtain ⟨ad239, e239, hx239_0⟩ := Kd.at_int (Kd.R_reads' HO_6.out).2.2 x31_1 p239 q239; cases e239; replace p239 := eq_true p239; replace q239 := eq_true q239; have p20 : 0 ≤ ((rd t225 x31_1) : Int) := dt; have q20 : ((rd t225 x31_1) : Int) < ((x9_1.length : Int) : Int) := dt; obtain ⟨go20, co20, eo20, gb20, gl20, cl20, HG20⟩ := Kd.R_form HO_9.out (by omega)
              (first | cases eo20 | (injection eo20 with ea_ en_ ec_; (first | subst ea_ | (injection ea_ with ea_; subst ea_)); subst ec_; clear en_))
              have GB20 := asd gb20; have GG20 := asd HG20; clear gb20 gl20 HG20; obtain ⟨ce20, hcl20, hM20, hcc20, hfr20⟩ := Kd.R_elem HO_9.out z49 ((rd t225 x31_1) : Int) p20 q20; obtain rfl := k49_openM hM20; have hx20_0 : wr.cell? ⟨go20, ((rd t225 x31_1) : Int).toNat * 6, none⟩ = some (.int .i64 ((J49 x9_1 (rd t225 x31_1)).f0)) := hcc20 0 _ rfl; have hx20_1 : wr.cell? ⟨go20, ((rd t225 x31_1) : Int).toNat * 6 + 1, none⟩ = some (.int .i64 ((J49 x9_1 (rd t225 x31_1)).f1)) := hcc20 1 _ rfl; have hx20_2 : wr.cell? ⟨go20, ((rd t225 x31_1) : Int).toNat * 6 + 2, none⟩ = some (.int .i64 ((J49 x9_1 (rd t225 x31_1)).f2)) := hcc20 2 _ rfl; have hx20_3 : wr.cell? ⟨go20, ((rd t225 x31_1) : Int).toNat * 6 + 3, none⟩ = some (.int .i64 ((J49 x9_1 (rd t225 x31_1)).f3)) := hcc20 3 _ rfl; have hx20_4 : wr.cell? ⟨go20, ((rd t225 x31_1) : Int).toNat * 6 + 4, none⟩ = some (.int .i64 ((J49 x9_1 (rd t225 x31_1)).f4)) := hcc20 4 _ rfl; have hx20_5 : wr.cell? ⟨go20, ((rd t225 x31_1) : Int).toNat * 6 + 5, none⟩ = some (.int .i64 ((J49 x9_1 (rd t225 x31_1)).f5)) := hcc20 5 _ rfl; have hf20_0 : wr.frozen? ⟨go20, ((rd t225 x31_1) : Int).toNat * 6, none⟩ = false := hfr20 0; have hf20_1 : wr.frozen? ⟨go20, ((rd t225 x31_1) : Int).toNat * 6 + 1, none⟩ = false := hfr20 1; have hf20_2 : wr.frozen? ⟨go20, ((rd t225 x31_1) : Int).toNat * 6 + 2, none⟩ = false := hfr20 2; have hf20_3 : wr.frozen? ⟨go20, ((rd t225 x31_1) : Int).toNat * 6 + 3, none⟩ = false := hfr20 3; have hf20_4 : wr.frozen? ⟨go20, ((rd t225 x31_1) : Int).toNat * 6 + 4, none⟩ = false := hfr20 4; have hf20_5 : wr.frozen? ⟨go20, ((rd t225 x31_1) : Int).toNat * 6 + 5, none⟩ = false := hfr20 5; clear hcl20 hcc20 hfr20 hM20; replace p20 := eq_true p20; replace q20 := eq_true q20; have HX21 := asd (show Kd.R k49 49 wr w.heap.size (fun _ => True) (.slice (some ⟨go20, 0, none⟩) x9_1.length co20) x9_1 from (skR HO_9.out)); obtain ⟨ce21, hcl21, hM21, hcc21, hfr21⟩ := Kd.R_elem HX21.out z49 ((rd t225 x31_1) : Int) dt (by have h_ : ((rd t225 x31_1) : Int) < ((x9_1.length : Int) : Int) := dt; first | exact h_ | (have e_ := (Kd.R_reads' HO_9.out).1; omega) | simpa using h_); obtain rfl := k49_openM hM21; have HP21 := Kd.R_seg HX21.out ((rd t225 x31_1) : Int) dt (by have h_ : ((rd t225 x31_1) : Int) < ((x9_1.length : Int) : Int) := dt; first | exact h_ | (have e_ := (Kd.R_reads' HO_9.out).1; omega) | simpa using h_) (seg := [.int .i64 (rd l1 x31_1)]) (j := 2) hcl21 hcc21 (show 3 ≤ 6 from by decide) (x' := (⟨(J49 x9_1 (rd t225 x31_1)).f0, (J49 x9_1 (rd t225 x31_1)).f1, rd l1 x31_1, (J49 x9_1 (rd t225 x31_1)).f3, (J49 x9_1 (rd t225 x31_1)).f4, (J49 x9_1 (rd t225 x31_1)).f5⟩ : S49)) (k49_mkM _ _ _ (⟨(J49 x9_1 (rd t225 x31_1)).f0, (J49 x9_1 (rd t225 x31_1)).f1, rd l1 x31_1, (J49 x9_1 (rd t225 x31_1)).f3, (J49 x9_1 (rd t225 x31_1)).f4, (J49 x9_1 (rd t225 x31_1)).f5⟩ : S49) ) (fun _ hk => hk); have hx21_2 := hcc21 2 _ rfl
              (try simp only [show (k49).sz = 6 from rfl, Nat.mul_one, Nat.add_zero] at hx21_2)
              have hf21_2 := hfr21 2
              (try simp only [show (k49).sz = 6 from rfl, Nat.mul_one, Nat.add_zero] at hf21_2)
              clear hcl21 hcc21 hfr21 hM21; go_wp2_with (first | ((with_reducible refine gate_store (t := 3) (p := 49) rfl ?_); refine store_event (t := 3) (p := 49) (v := ?vo_w22) (w1 := (wr.setCell ⟨go20, ((rd t225 x31_1) : Int).toNat * 6 + 2, none⟩ (.int .i64 (rd l1 x31_1)))) ?hg ?ho ?hn ?hr ?_; (case ho => rfl); (case hg => rfl); (case hn => rfl); (case hr => first | (go_simp; done) | (go_simp; rfl)); intro w22 hw; have hg : wr.grownBy w22 (some go20) := (by rw [hw]; exact HP21.2); have hp_ : Kd.R k49 49 w22 w.heap.size (fun _ => True) (.slice (some ⟨go20, 0, none⟩) x9_1.length co20) y240 := (by rw [hw, Ny240.out]; exact HP21.1); clear HP21; have n0_ := asd (Kd.R_over' (v := (.slice (some ⟨go20, 0, none⟩) x9_1.length co20)) (skR HO_6.out) (Kd.R_typed HO_9.out) (by decide) hg); have n1_ := asd (hp_); have n2_ := asd ((by rw [hw]; exact below_set (HB.out) GB20.out : Below w.heap.size w w22)); clear HO_6 HO_9 HB; have HO_6 := n0_; have HO_9 := n1_; have HB := n2_; clear n0_ n1_ n2_; clear hg hw hp_))
              go_roundg k1
              case measure => have := HK1.out; omega
              case rel => exact ⟨(y240), (wrap64 (x31_1 + 1)), rs, H', ⟨by have := HK1.out; omega⟩, ⟨skR HO_6.out⟩, ⟨skR HO_9.out⟩, ⟨skB HB.out⟩⟩
             · rw [if_neg c19] at H; exact absurd H (by simp)
            · rw [if_neg c18] at H; exact absurd H (by simp)
           · rw [if_neg c17] at H; exact absurd H (by simp)
        · rw [if_neg c14] at H; exact absurd H (by simp)
       · rw [if_neg c13] at H; exact absurd H (by simp)
      ·
       rw [if_neg c12] at H; have c12b0 : decide (x31_1 < (l1.length : Int)) = false := decide_eq_false c12; clear c12; replace H := Option.bind_eq_some_iff.mp H; obtain ⟨⟨t241, t242⟩, A230, H⟩ := H; replace H : (some (t241, t242)) = some (r1, r2) := H; have A23 := asd A230; clear A230; simp only [Option.some.injEq, Prod.mk.injEq] at H; obtain ⟨rfl, rfl⟩ := H; obtain ⟨Ao24, co24, eo24⟩ := Kd.R_slice HO_9.out; subst eo24; go_wp2_with (first | ((with_reducible refine gate_callee (f := 52) rfl ?_); refine goesL_ (some 52) rfl rfl Try.func52 (by kernel_rfl) rfl #[.slice Ao24 x9_1.length co24] rfl ags ?_; (with_reducible refine (table_Norm.calls k1 _ _ x9_1 t241 t242 _ ?side1 ?side2 A23.out).mono ?_); (case side1 => exact skC (Kd.R_reads' HO_9.out).2.2); (case side2 => exact (Kd.R_reads' HO_9.out).2.1); rintro e w25 ⟨v243, rfl, ho0, hb⟩; refine ⟨_, rfl, ?_⟩; have n0_ := asd (Kd.R_below (skR HO_6.out) hb); have n1_ := asd (Kd.R_elder' (skR HO_9.out) (Kd.R_base ho0) hb); have n2_ := asd (Kd.R_lower (Kd.R_new' ho0 (Kd.R_lt (skR HO_9.out))) (below_size (skB HB.out))); have n3_ := asd (below_step (skB HB.out) hb); clear HO_6 HO_9 HB; have HO_6 := n0_; have HO_9 := n1_; have HO244 := n2_; have HB := n3_; clear n0_ n1_ n2_ n3_; (try clear hb); (try clear hb2); (try clear hk); (try clear hi); (try clear ho0)))
       go_ret2
       exact ⟨_, re, skR (Kd.R_mono HO244.out (fun _ hk => trivial)), skB HB.out⟩
   · rw [if_neg c6] at H; exact absurd H (by simp)
  ·
   rw [if_neg c5] at H; have c5b0 : ((l1.length : Int) == (t225.length : Int)) = false := beq_eq_false_iff_ne.mpr c5; have c5b1 : ((l1.length : Int) != (t225.length : Int)) = true := bne_iff_ne.mpr c5; have c5b2 : (l1.length == t225.length) = false := by first | simpa using c5 | (simp at c5 ⊢; omega)
   simp only [Option.some.injEq, Prod.mk.injEq] at H; obtain ⟨rfl, rfl⟩ := H; go_enter Try.func21, Try.ntmps21
   go_wp2_with (first | ((with_reducible refine gate_callee (f := 51) rfl ?_); refine goesL_ (some 14) rfl rfl Try.func51 (by kernel_rfl) rfl #[.slice A0 l0.length c0] rfl ags ?_; (with_reducible refine (weigh_keys.calls k _ _ l0 t225 t226 t227 _ ?side1 ?side2 A3.out).mono ?_); (case side1 => exact skC HR0.out); (case side2 => exact HC0.out); rintro e w26 ⟨v228, v230, rfl, ho0, ho1, hb⟩; refine ⟨_, rfl, ?_⟩; have n0_ := asd (Kd.R_lower ho0 (below_size (skB HB.out))); have n1_ := asd (Kd.R_lower ho1 (below_size (skB HB.out))); have n2_ := asd (below_step (skB HB.out) hb); clear HB; have HO229 := n0_; have HO231 := n1_; have HB := n2_; clear n0_ n1_ n2_; (try clear hb); (try clear hb2); (try clear hk); (try clear hi); (try clear ho0); (try clear ho1); obtain ⟨Ao27, co27, eo27⟩ := Kd.R_slice HO229.out; subst eo27))
   go_ret2
   exact ⟨_, re, by first | exact Kd.R_nil _ _ _ _ _ | exact Kd.N_nil _ _ _ _ _ | exact Kd.V_nil _ _ _ _ _ | exact Kd.Q_nil _ _ _ _ _ | exact Kd.S_nil _ _ _ _ _, skB HB.out⟩
 ·
  rw [if_neg c4] at H; have c4b0 : (t227 == 0) = false := beq_eq_false_iff_ne.mpr c4; have c4b1 : (t227 != 0) = true := bne_iff_ne.mpr c4; simp only [Option.some.injEq, Prod.mk.injEq] at H; obtain ⟨rfl, rfl⟩ := H; go_enter Try.func21, Try.ntmps21
  go_wp2_with (first | ((with_reducible refine gate_callee (f := 51) rfl ?_); refine goesL_ (some 14) rfl rfl Try.func51 (by kernel_rfl) rfl #[.slice A0 l0.length c0] rfl ags ?_; (with_reducible refine (weigh_keys.calls k _ _ l0 t225 t226 t227 _ ?side1 ?side2 A3.out).mono ?_); (case side1 => exact skC HR0.out); (case side2 => exact HC0.out); rintro e w28 ⟨v228, v230, rfl, ho0, ho1, hb⟩; refine ⟨_, rfl, ?_⟩; have n0_ := asd (Kd.R_lower ho0 (below_size (skB HB.out))); have n1_ := asd (Kd.R_lower ho1 (below_size (skB HB.out))); have n2_ := asd (below_step (skB HB.out) hb); clear HB; have HO229 := n0_; have HO231 := n1_; have HB := n2_; clear n0_ n1_ n2_; (try clear hb); (try clear hb2); (try clear hk); (try clear hi); (try clear ho0); (try clear ho1)))
  go_ret2
  exact ⟨_, re, by first | exact Kd.R_nil _ _ _ _ _ | exact Kd.N_nil _ _ _ _ _ | exact Kd.V_nil _ _ _ _ _ | exact Kd.Q_nil _ _ _ _ _ | exact Kd.S_nil _ _ _ _ _, skB HB.out⟩
end Go.Proofs.Ytmmjkebboonnkaa.P
/- F57 -/
namespace Go.Proofs.Ytmmjkebboonnkaa.P
open Go.RowKit Go.Proofs.YtmmjkebboonnkaaW.PrintWords Go.Proofs.YtmmjkebboonnkaaW.PrintLast Go.Proofs.YtmmjkebboonnkaaW.PrintMore
attribute [local go_sem] max2_int min2_int max_two min_two max_three min_three max_four min_four   -- for this text's walks alone
set_option linter.unusedVariables false
set_option linter.unusedSimpArgs false
def weigh_Deep.f (k : Nat) (l0 : List (S49)) : Option (Int × Int) := (weigh_keys.f k l0).bind fun bt674 => (if bt674.2.2 = 0 then ((table_Height.f k l0).bind fun bt681 => (some (bt681.1, bt681.2))) else (some (0, bt674.2.2)))
end Go.Proofs.Ytmmjkebboonnkaa.P
/- F61 -/
namespace Go.Proofs.Ytmmjkebboonnkaa.P
open Go.RowKit Go.Proofs.YtmmjkebboonnkaaW.PrintWords Go.Proofs.YtmmjkebboonnkaaW.PrintLast Go.Proofs.YtmmjkebboonnkaaW.PrintMore
attribute [local go_sem] max2_int min2_int max_two min_two max_three min_three max_four min_four   -- for this text's walks alone
set_option linter.unusedVariables false
set_option linter.unusedSimpArgs false
end Go.Proofs.Ytmmjkebboonnkaa.P
