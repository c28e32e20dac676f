/- P.eventOrders_holds, part 5 of 22: the contracts of the Go functions that the law calls, its own walk, and its plain law, for every input that the statement speaks of. -/
import Derived.Test.YtagdkmcgepidoaaMOrders2
import Derived.Test.YtagdkmcgepidoaaMOrders3
import Derived.Test.YtagdkmcgepidoaaMOrders1
set_option linter.unusedVariables false
set_option linter.unusedSimpArgs false
/- F22 -/
namespace Go.Proofs.Ytagdkmcgepidoaa.P
open Go.RowKit Go.Proofs.YtagdkmcgepidoaaW.PrintWords Go.Proofs.YtagdkmcgepidoaaW.PrintLast Go.Proofs.YtagdkmcgepidoaaW.PrintMore
attribute [local go_sem] max2_int min2_int max_two min_two max_three min_three max_four min_four   -- for this text's walks alone
set_option linter.unusedVariables false
set_option linter.unusedSimpArgs false
def larchref05_calls.l0 : Nat → List (S67) → List (S76) → List Int → Int → Option ((List (S76)))
 | 0, _, _, _, _ => none
 | k + 1, x0, x3, x4, x5 => if x5 < (x0.length : Int) then (if 0 ≤ x5 then (if ((J67 x0 x5).f1 = true) then (if 0 ≤ ((J67 x0 x5).f0) then (if ((J67 x0 x5).f0) < (x4.length : Int) then (if 0 ≤ (rd x4 ((J67 x0 x5).f0)) then (if (rd x4 ((J67 x0 x5).f0)) < (x3.length : Int) then ((some (x3.set ((rd x4 ((J67 x0 x5).f0)) : Int).toNat (⟨(J76 x3 (rd x4 ((J67 x0 x5).f0))).f0, (⟨(J76 x3 (rd x4 ((J67 x0 x5).f0))).f1.f0, (J76 x3 (rd x4 ((J67 x0 x5).f0))).f1.f1, (J76 x3 (rd x4 ((J67 x0 x5).f0))).f1.f2, (J76 x3 (rd x4 ((J67 x0 x5).f0))).f1.f3⟩ : S33), (⟨(J76 x3 (rd x4 ((J67 x0 x5).f0))).f2.f0, (J76 x3 (rd x4 ((J67 x0 x5).f0))).f2.f1, (J76 x3 (rd x4 ((J67 x0 x5).f0))).f2.f2, (J76 x3 (rd x4 ((J67 x0 x5).f0))).f2.f3⟩ : S36), (J76 x3 (rd x4 ((J67 x0 x5).f0))).f3, x5⟩ : S76) : List (S76))).bind fun y174 => ((larchref05_CopyRet.f ((J67 x0 x5).f3.f0) ((J67 x0 x5).f3.f1) ((J67 x0 x5).f3.f2) ((J67 x0 x5).f3.f3)).bind fun bt176 => (larchref05_calls.l0 k x0 (y174.set ((rd x4 ((J67 x0 x5).f0)) : Int).toNat (⟨(J76 y174 (rd x4 ((J67 x0 x5).f0))).f0, (⟨(J76 y174 (rd x4 ((J67 x0 x5).f0))).f1.f0, (J76 y174 (rd x4 ((J67 x0 x5).f0))).f1.f1, (J76 y174 (rd x4 ((J67 x0 x5).f0))).f1.f2, (J76 y174 (rd x4 ((J67 x0 x5).f0))).f1.f3⟩ : S33), (⟨bt176.1, bt176.2.1, bt176.2.2.1, bt176.2.2.2⟩ : S36), (J76 y174 (rd x4 ((J67 x0 x5).f0))).f3, (J76 y174 (rd x4 ((J67 x0 x5).f0))).f4⟩ : S76)) x4 (wrap64 (x5 + 1))))) else (none)) else (none)) else (none)) else (none)) else (if 0 ≤ ((J67 x0 x5).f0) then (if ((J67 x0 x5).f0) < (x4.length : Int) then (if x3.length < 1353245080339 then (larchref05_calls.l0 k x0 (x3 ++ [(⟨(J67 x0 x5).f0, (⟨(J67 x0 x5).f2.f0, (J67 x0 x5).f2.f1, (J67 x0 x5).f2.f2, (J67 x0 x5).f2.f3⟩ : S33), (⟨false, 0, 0, ([] : List (S70))⟩ : S36), x5, (-1)⟩ : S76)]) (x4.set (((J67 x0 x5).f0) : Int).toNat (x3.length : Int)) (wrap64 (x5 + 1))) else (none)) else (none)) else (none))) else (none)) else (some x3)
def larchref05_calls.f (k : Nat) (l0 : List (S67)) : Option ((List (S76))) := if 64 ≤ 35184372088832 then (larchref05_calls.l0 k l0 ([] : List (S76)) (List.replicate 64 0) 0) else (none)
def larchref05_calls.T8 : Bool × List (List Nat × List Nat) := (true, [([], []), ([], []), ([], []), ([1, 2], [1, 2]), ([3], [3]), ([4], [4]), ([], []), ([], []), ([6, 7], [6, 7]), ([8], [8]), ([9], [9]), ([], []), ([5, 10, 11], [5, 10, 11]), ([12], [12]), ([0, 13], [0, 13]), ([14, 14, 0, 1, 2, 3, 4, 5, 6, 7, 8, 9, 10, 11, 12, 13, 14], [0, 14])])
def larchref05_calls.B8 : List Nat := [0, 0, 0, 6, 14, 30, 0, 0, 192, 448, 960, 0, 4094, 8190, 16383, 32767]
theorem larchref05_calls.tab8 : rtab .any (opsOf Try.f64 8) = larchref05_calls.T8 := by kernel_rfl
theorem larchref05_calls.bits8 : waitsOk larchref05_calls.T8.2 larchref05_calls.B8 = true := by kernel_rfl
set_option maxHeartbeats 8000000 in
set_option maxRecDepth 100000 in
theorem larchref05_calls.calls (k : Nat) (A0 : Option Addr) (c0 : Nat) (l0 : List (S67)) (r : List (S76)) (w : World) (hr0 : Kd.C k67 w A0 l0.length l0) (hc0 : l0.length ≤ c0) (h : larchref05_calls.f k l0 = some r) :
  Calls Try.prog 64 #[.slice A0 l0.length c0] w fun e w' => ∃ v0_ : Value, e = .returned (v0_) ∧ Kd.S k76 76 w' w.heap.size (fun _ => True) v0_ r ∧ Below w.heap.size w w' := by
 have hu33 := Try.underlying33
 have hu76 := Try.underlying76
 have hu36 := Try.underlying36
 have HR0 := asd hr0
 have HC0 := asd hc0
 clear hr0 hc0
 have HB := asd (Below.refl w.heap.size w)
 have H : (if 64 ≤ 35184372088832 then (larchref05_calls.l0 k l0 ([] : List (S76)) (List.replicate 64 0) 0) else (none)) = some r := h
 clear h
 by_cases c2 : 64 ≤ 35184372088832
 ·
  rw [if_pos c2] at H
  have c2b0 := eq_true c2
  have c2b1 : decide (64 ≤ 35184372088832) = true := decide_eq_true c2
  clear c2
  obtain ⟨y168, hy168⟩ : ∃ y_ : List Int, y_ = (List.replicate 64 0) := ⟨_, rfl⟩
  replace H : (larchref05_calls.l0 k l0 ([] : List (S76)) y168 0) = some r := by first | (rw [hy168]; with_reducible exact H) | (have H2_ := (Option.bind_some _ _).symm.trans H; rw [hy168]; with_reducible exact H2_) | (have H2_ := (Option.bind_some _ _).symm.trans H; with_reducible exact H2_) | with_reducible exact H | (rw [hy168]; exact H) | exact H
  have Ny168 := asd hy168
  clear hy168
  have H' := asd H
  clear H
  go_enter Try.func64, Try.ntmps64
  go_wp2_with (first | ((with_reducible refine gate_dst (N := 7) rfl ?_); refine Kd.R_make (Kd.int .i64) _ 3 rfl (N := 7) rfl 41 _ _ rfl 64 rfl rfl Try.underlying41 (.int .i64 0) 8 info3 rfl (by decide) (by omega) 0 (ok := fun _ => True) (okp := fun _ => True) rfl (fun _ hk => hk) trivial (by omega) (by omega) (Below.refl _ _) (Nat.le_refl _) ?_; intro v169 w3 ho4 hb hg_ hnew_; clear hg_ hnew_; (first | rw [← Ny168.out] at ho4 | (simp only [Int.reduceToNat] at ho4; rw [← Ny168.out] at ho4)); have n0_ := asd (Kd.R_lower ho4 (below_size (skB HB.out))); have n1_ := asd (below_step (skB HB.out) hb); clear HB; have HO170 := n0_; have HB := n1_; clear n0_ n1_; clear hb ho4))
  go_loopg [3, 5] k (fun kq v3 v5 w' => ∃ (x3_1 : List (S76)) (x4_1 : List Int) (x5_1 : Int), v5 = .int .i64 x5_1 ∧ Aside0 (larchref05_calls.l0 kq l0 x3_1 x4_1 x5_1 = some r) ∧ Aside0 (kq ≤ k) ∧ Aside0 (Kd.S k76 76 w' w.heap.size (fun _ => True) v3 x3_1) ∧ Aside0 (Kd.R (Kd.int .i64) 3 w' w.heap.size (fun _ => True) v169 x4_1) ∧ Aside0 (Below w.heap.size w w'))
  case atStart => exact ⟨(([] : List (S76))), (y168), (0), rs, H', ⟨Nat.le_refl _⟩, ⟨by first | exact Kd.S_nil _ _ _ _ _ | exact Kd.N_nil _ _ _ _ _ | exact Kd.V_nil _ _ _ _ _ | exact Kd.Q_nil _ _ _ _ _ | exact Kd.R_nil _ _ _ _ _⟩, ⟨skR HO170.out⟩, ⟨skB HB.out⟩⟩
  case round =>
   clear H'
   try clear c2
   try clear c2b0
   try clear c2b1
   try clear p2
   obtain ⟨x3_1, x4_1, x5_1, rfl, HA, HK1, HO_3, HO_4, HB⟩ := hrel
   cases gk with
   | zero => exact absurd HA.out (by simp [larchref05_calls.l0])
   | succ k1 =>
    have H := HA.out
    clear HA
    simp only [larchref05_calls.l0] at H
    by_cases c5 : x5_1 < (l0.length : Int)
    ·
     rw [if_pos c5] at H
     have c5b0 : decide (x5_1 < (l0.length : Int)) = true := decide_eq_true c5
     clear c5
     by_cases c6 : 0 ≤ x5_1
     ·
      rw [if_pos c6] at H
      have c6b0 : decide (0 ≤ x5_1) = true := decide_eq_true c6
      clear c6
      obtain ⟨bq7, hbq7⟩ : ∃ b_ : Bool, b_ = ((J67 l0 x5_1).f1) := ⟨_, rfl⟩
      replace H : (if (bq7 = true) then (if 0 ≤ ((J67 l0 x5_1).f0) then (if ((J67 l0 x5_1).f0) < (x4_1.length : Int) then (if 0 ≤ (rd x4_1 ((J67 l0 x5_1).f0)) then (if (rd x4_1 ((J67 l0 x5_1).f0)) < (x3_1.length : Int) then ((some (x3_1.set ((rd x4_1 ((J67 l0 x5_1).f0)) : Int).toNat (⟨(J76 x3_1 (rd x4_1 ((J67 l0 x5_1).f0))).f0, (⟨(J76 x3_1 (rd x4_1 ((J67 l0 x5_1).f0))).f1.f0, (J76 x3_1 (rd x4_1 ((J67 l0 x5_1).f0))).f1.f1, (J76 x3_1 (rd x4_1 ((J67 l0 x5_1).f0))).f1.f2, (J76 x3_1 (rd x4_1 ((J67 l0 x5_1).f0))).f1.f3⟩ : S33), (⟨(J76 x3_1 (rd x4_1 ((J67 l0 x5_1).f0))).f2.f0, (J76 x3_1 (rd x4_1 ((J67 l0 x5_1).f0))).f2.f1, (J76 x3_1 (rd x4_1 ((J67 l0 x5_1).f0))).f2.f2, (J76 x3_1 (rd x4_1 ((J67 l0 x5_1).f0))).f2.f3⟩ : S36), (J76 x3_1 (rd x4_1 ((J67 l0 x5_1).f0))).f3, x5_1⟩ : S76) : List (S76))).bind fun y174 => ((larchref05_CopyRet.f ((J67 l0 x5_1).f3.f0) ((J67 l0 x5_1).f3.f1) ((J67 l0 x5_1).f3.f2) ((J67 l0 x5_1).f3.f3)).bind fun bt176 => (larchref05_calls.l0 k1 l0 (y174.set ((rd x4_1 ((J67 l0 x5_1).f0)) : Int).toNat (⟨(J76 y174 (rd x4_1 ((J67 l0 x5_1).f0))).f0, (⟨(J76 y174 (rd x4_1 ((J67 l0 x5_1).f0))).f1.f0, (J76 y174 (rd x4_1 ((J67 l0 x5_1).f0))).f1.f1, (J76 y174 (rd x4_1 ((J67 l0 x5_1).f0))).f1.f2, (J76 y174 (rd x4_1 ((J67 l0 x5_1).f0))).f1.f3⟩ : S33), (⟨bt176.1, bt176.2.1, bt176.2.2.1, bt176.2.2.2⟩ : S36), (J76 y174 (rd x4_1 ((J67 l0 x5_1).f0))).f3, (J76 y174 (rd x4_1 ((J67 l0 x5_1).f0))).f4⟩ : S76)) x4_1 (wrap64 (x5_1 + 1))))) else (none)) else (none)) else (none)) else (none)) else (if 0 ≤ ((J67 l0 x5_1).f0) then (if ((J67 l0 x5_1).f0) < (x4_1.length : Int) then (if x3_1.length < 1353245080339 then (larchref05_calls.l0 k1 l0 (x3_1 ++ [(⟨(J67 l0 x5_1).f0, (⟨(J67 l0 x5_1).f2.f0, (J67 l0 x5_1).f2.f1, (J67 l0 x5_1).f2.f2, (J67 l0 x5_1).f2.f3⟩ : S33), (⟨false, 0, 0, ([] : List (S70))⟩ : S36), x5_1, (-1)⟩ : S76)]) (x4_1.set (((J67 l0 x5_1).f0) : Int).toNat (x3_1.length : Int)) (wrap64 (x5_1 + 1))) else (none)) else (none)) else (none))) = some r := by rw [← hbq7] at H; exact H
      have Nbq7 := asd hbq7
      clear hbq7
      by_cases c8 : (bq7 = true)
      ·
       subst c8
       have H1 : (if 0 ≤ ((J67 l0 x5_1).f0) then (if ((J67 l0 x5_1).f0) < (x4_1.length : Int) then (if 0 ≤ (rd x4_1 ((J67 l0 x5_1).f0)) then (if (rd x4_1 ((J67 l0 x5_1).f0)) < (x3_1.length : Int) then ((some (x3_1.set ((rd x4_1 ((J67 l0 x5_1).f0)) : Int).toNat (⟨(J76 x3_1 (rd x4_1 ((J67 l0 x5_1).f0))).f0, (⟨(J76 x3_1 (rd x4_1 ((J67 l0 x5_1).f0))).f1.f0, (J76 x3_1 (rd x4_1 ((J67 l0 x5_1).f0))).f1.f1, (J76 x3_1 (rd x4_1 ((J67 l0 x5_1).f0))).f1.f2, (J76 x3_1 (rd x4_1 ((J67 l0 x5_1).f0))).f1.f3⟩ : S33), (⟨(J76 x3_1 (rd x4_1 ((J67 l0 x5_1).f0))).f2.f0, (J76 x3_1 (rd x4_1 ((J67 l0 x5_1).f0))).f2.f1, (J76 x3_1 (rd x4_1 ((J67 l0 x5_1).f0))).f2.f2, (J76 x3_1 (rd x4_1 ((J67 l0 x5_1).f0))).f2.f3⟩ : S36), (J76 x3_1 (rd x4_1 ((J67 l0 x5_1).f0))).f3, x5_1⟩ : S76) : List (S76))).bind fun y174 => ((larchref05_CopyRet.f ((J67 l0 x5_1).f3.f0) ((J67 l0 x5_1).f3.f1) ((J67 l0 x5_1).f3.f2) ((J67 l0 x5_1).f3.f3)).bind fun bt176 => (larchref05_calls.l0 k1 l0 (y174.set ((rd x4_1 ((J67 l0 x5_1).f0)) : Int).toNat (⟨(J76 y174 (rd x4_1 ((J67 l0 x5_1).f0))).f0, (⟨(J76 y174 (rd x4_1 ((J67 l0 x5_1).f0))).f1.f0, (J76 y174 (rd x4_1 ((J67 l0 x5_1).f0))).f1.f1, (J76 y174 (rd x4_1 ((J67 l0 x5_1).f0))).f1.f2, (J76 y174 (rd x4_1 ((J67 l0 x5_1).f0))).f1.f3⟩ : S33), (⟨bt176.1, bt176.2.1, bt176.2.2.1, bt176.2.2.2⟩ : S36), (J76 y174 (rd x4_1 ((J67 l0 x5_1).f0))).f3, (J76 y174 (rd x4_1 ((J67 l0 x5_1).f0))).f4⟩ : S76)) x4_1 (wrap64 (x5_1 + 1))))) else (none)) else (none)) else (none)) else (none)) = some r := by rw [if_pos rfl] at H; exact H
       clear H
       have H := H1
       clear H1
       by_cases c9 : 0 ≤ ((J67 l0 x5_1).f0)
       ·
        rw [if_pos c9] at H
        have c9b0 : decide (0 ≤ ((J67 l0 x5_1).f0)) = true := decide_eq_true c9
        clear c9
        by_cases c10 : ((J67 l0 x5_1).f0) < (x4_1.length : Int)
        ·
         rw [if_pos c10] at H
         have c10b0 : decide (((J67 l0 x5_1).f0) < (x4_1.length : Int)) = true := decide_eq_true c10
         clear c10
         by_cases c11 : 0 ≤ (rd x4_1 ((J67 l0 x5_1).f0))
         ·
          rw [if_pos c11] at H
          have c11b0 : decide (0 ≤ (rd x4_1 ((J67 l0 x5_1).f0))) = true := decide_eq_true c11
          clear c11
          by_cases c12 : (rd x4_1 ((J67 l0 x5_1).f0)) < (x3_1.length : Int)
          ·
           rw [if_pos c12] at H
           have c12b0 : decide ((rd x4_1 ((J67 l0 x5_1).f0)) < (x3_1.length : Int)) = true := decide_eq_true c12
           clear c12
           obtain ⟨y174, hy174⟩ : ∃ y_ : List (S76), y_ = (x3_1.set ((rd x4_1 ((J67 l0 x5_1).f0)) : Int).toNat (⟨(J76 x3_1 (rd x4_1 ((J67 l0 x5_1).f0))).f0, (⟨(J76 x3_1 (rd x4_1 ((J67 l0 x5_1).f0))).f1.f0, (J76 x3_1 (rd x4_1 ((J67 l0 x5_1).f0))).f1.f1, (J76 x3_1 (rd x4_1 ((J67 l0 x5_1).f0))).f1.f2, (J76 x3_1 (rd x4_1 ((J67 l0 x5_1).f0))).f1.f3⟩ : S33), (⟨(J76 x3_1 (rd x4_1 ((J67 l0 x5_1).f0))).f2.f0, (J76 x3_1 (rd x4_1 ((J67 l0 x5_1).f0))).f2.f1, (J76 x3_1 (rd x4_1 ((J67 l0 x5_1).f0))).f2.f2, (J76 x3_1 (rd x4_1 ((J67 l0 x5_1).f0))).f2.f3⟩ : S36), (J76 x3_1 (rd x4_1 ((J67 l0 x5_1).f0))).f3, x5_1⟩ : S76)) := ⟨_, rfl⟩
           replace H : ((larchref05_CopyRet.f ((J67 l0 x5_1).f3.f0) ((J67 l0 x5_1).f3.f1) ((J67 l0 x5_1).f3.f2) ((J67 l0 x5_1).f3.f3)).bind fun bt176 => (larchref05_calls.l0 k1 l0 (y174.set ((rd x4_1 ((J67 l0 x5_1).f0)) : Int).toNat (⟨(J76 y174 (rd x4_1 ((J67 l0 x5_1).f0))).f0, (⟨(J76 y174 (rd x4_1 ((J67 l0 x5_1).f0))).f1.f0, (J76 y174 (rd x4_1 ((J67 l0 x5_1).f0))).f1.f1, (J76 y174 (rd x4_1 ((J67 l0 x5_1).f0))).f1.f2, (J76 y174 (rd x4_1 ((J67 l0 x5_1).f0))).f1.f3⟩ : S33), (⟨bt176.1, bt176.2.1, bt176.2.2.1, bt176.2.2.2⟩ : S36), (J76 y174 (rd x4_1 ((J67 l0 x5_1).f0))).f3, (J76 y174 (rd x4_1 ((J67 l0 x5_1).f0))).f4⟩ : S76)) x4_1 (wrap64 (x5_1 + 1)))) = some r := by first | (rw [hy174]; with_reducible exact H) | (have H2_ := (Option.bind_some _ _).symm.trans H; rw [hy174]; with_reducible exact H2_) | (have H2_ := (Option.bind_some _ _).symm.trans H; with_reducible exact H2_) | with_reducible exact H | (rw [hy174]; exact H) | exact H
           have Ny174 := asd hy174
           clear hy174
           replace H := Option.bind_eq_some_iff.mp H
           obtain ⟨⟨t176, t177, t178, t179⟩, A140, H⟩ := H
           replace H : (larchref05_calls.l0 k1 l0 (y174.set ((rd x4_1 ((J67 l0 x5_1).f0)) : Int).toNat (⟨(J76 y174 (rd x4_1 ((J67 l0 x5_1).f0))).f0, (⟨(J76 y174 (rd x4_1 ((J67 l0 x5_1).f0))).f1.f0, (J76 y174 (rd x4_1 ((J67 l0 x5_1).f0))).f1.f1, (J76 y174 (rd x4_1 ((J67 l0 x5_1).f0))).f1.f2, (J76 y174 (rd x4_1 ((J67 l0 x5_1).f0))).f1.f3⟩ : S33), (⟨t176, t177, t178, t179⟩ : S36), (J76 y174 (rd x4_1 ((J67 l0 x5_1).f0))).f3, (J76 y174 (rd x4_1 ((J67 l0 x5_1).f0))).f4⟩ : S76)) x4_1 (wrap64 (x5_1 + 1))) = some r := H
           have A14 := asd A140
           clear A140
           obtain ⟨y182, hy182⟩ : ∃ y_ : List (S76), y_ = (y174.set ((rd x4_1 ((J67 l0 x5_1).f0)) : Int).toNat (⟨(J76 y174 (rd x4_1 ((J67 l0 x5_1).f0))).f0, (⟨(J76 y174 (rd x4_1 ((J67 l0 x5_1).f0))).f1.f0, (J76 y174 (rd x4_1 ((J67 l0 x5_1).f0))).f1.f1, (J76 y174 (rd x4_1 ((J67 l0 x5_1).f0))).f1.f2, (J76 y174 (rd x4_1 ((J67 l0 x5_1).f0))).f1.f3⟩ : S33), (⟨t176, t177, t178, t179⟩ : S36), (J76 y174 (rd x4_1 ((J67 l0 x5_1).f0))).f3, (J76 y174 (rd x4_1 ((J67 l0 x5_1).f0))).f4⟩ : S76)) := ⟨_, rfl⟩
           replace H : (larchref05_calls.l0 k1 l0 y182 x4_1 (wrap64 (x5_1 + 1))) = some r := by first | (rw [hy182]; with_reducible exact H) | (have H2_ := (Option.bind_some _ _).symm.trans H; rw [hy182]; with_reducible exact H2_) | (have H2_ := (Option.bind_some _ _).symm.trans H; with_reducible exact H2_) | with_reducible exact H | (rw [hy182]; exact H) | exact H
           have Ny182 := asd hy182
           clear hy182
           have H' := asd H
           clear H
           have p171 : 0 ≤ (x5_1 : Int) := dt
           have q171 : x5_1 < (l0.length : Int) := dt
           obtain ⟨ad171, A171_9, c171_9, e171, hx171_0, hx171_1, hx171_2, hx171_3, hx171_4, hx171_5, hx171_6, hx171_7, hx171_8, hx171_9, hl171_9, hi171_9⟩ := at_T67 HR0.out x5_1 p171 q171
           (try rw [← Nbq7.out] at hx171_1)
           (try rw [← Nbq7.out] at hw171_1)
           (try rw [← Nbq7.out] at hx171_6)
           (try rw [← Nbq7.out] at hw171_6)
           cases e171
           replace hx171_0 := skc HB.out hx171_0
           replace hx171_1 := skc HB.out hx171_1
           replace hx171_2 := skc HB.out hx171_2
           replace hx171_3 := skc HB.out hx171_3
           replace hx171_4 := skc HB.out hx171_4
           replace hx171_5 := skc HB.out hx171_5
           replace hx171_6 := skc HB.out hx171_6
           replace hx171_7 := skc HB.out hx171_7
           replace hx171_8 := skc HB.out hx171_8
           replace hx171_9 := skc HB.out hx171_9
           have HR171_9 := asd hi171_9
           have HC171_9 := asd hl171_9
           clear hi171_9 hl171_9
           replace p171 := eq_true p171
           replace q171 := eq_true q171
           have p172 : 0 ≤ (x5_1 : Int) := dt
           have q172 : x5_1 < (l0.length : Int) := dt
           obtain ⟨ad172, A172_9, c172_9, e172, hx172_0, hx172_1, hx172_2, hx172_3, hx172_4, hx172_5, hx172_6, hx172_7, hx172_8, hx172_9, hl172_9, hi172_9⟩ := at_T67 HR0.out x5_1 p172 q172
           (try rw [← Nbq7.out] at hx172_1)
           (try rw [← Nbq7.out] at hw172_1)
           (try rw [← Nbq7.out] at hx172_6)
           (try rw [← Nbq7.out] at hw172_6)
           obtain rfl : ad171 = ad172 := (by injection e172)
           replace hx172_0 := skc HB.out hx172_0
           replace hx172_1 := skc HB.out hx172_1
           replace hx172_2 := skc HB.out hx172_2
           replace hx172_3 := skc HB.out hx172_3
           replace hx172_4 := skc HB.out hx172_4
           replace hx172_5 := skc HB.out hx172_5
           replace hx172_6 := skc HB.out hx172_6
           replace hx172_7 := skc HB.out hx172_7
           replace hx172_8 := skc HB.out hx172_8
           replace hx172_9 := skc HB.out hx172_9
           have HR172_9 := asd hi172_9
           have HC172_9 := asd hl172_9
           clear hi172_9 hl172_9
           replace p172 := eq_true p172
           replace q172 := eq_true q172
           have ea_ := Option.some.inj (hx171_9.symm.trans hx172_9)
           injection ea_ with ea_ en_ ec_
           subst ea_
           subst ec_
           clear en_
           obtain ⟨Ao16, co16, eo16⟩ := Kd.R_slice HO_4.out
           subst eo16
           have p173 : 0 ≤ (((J67 l0 x5_1).f0) : Int) := dt
           have q173 : ((J67 l0 x5_1).f0) < (x4_1.length : Int) := dt
           obtain ⟨ad173, e173, hx173_0⟩ := Kd.at_int (Kd.R_reads' HO_4.out).2.2 ((J67 l0 x5_1).f0) p173 q173
           cases e173
           replace p173 := eq_true p173
           replace q173 := eq_true q173
           have p13 : 0 ≤ ((rd x4_1 ((J67 l0 x5_1).f0)) : Int) := dt
           have q13 : ((rd x4_1 ((J67 l0 x5_1).f0)) : Int) < ((x3_1.length : Int) : Int) := dt
           obtain ⟨go13, co13, eo13, gb13, gl13, cl13, HG13⟩ := Kd.S_form HO_3.out (by omega)
           (first | cases eo13 | (injection eo13 with ea_ en_ ec_; (first | subst ea_ | (injection ea_ with ea_; subst ea_)); subst ec_; clear en_))
           have GB13 := asd gb13
           have GG13 := asd HG13
           clear gb13 gl13 HG13
           obtain ⟨_, ce13, hcl13, hM13, hcc13, hfr13, _, _⟩ := Kd.S_elem HO_3.out z76 ((rd x4_1 ((J67 l0 x5_1).f0)) : Int) p13 q13
           obtain ⟨ve13_8, rfl, ge13_8⟩ := k76_openM hM13
           have hx13_0 : wr.cell? ⟨go13, ((rd x4_1 ((J67 l0 x5_1).f0)) : Int).toNat * 11, none⟩ = some (.int .i64 ((J76 x3_1 (rd x4_1 ((J67 l0 x5_1).f0))).f0)) := hcc13 0 _ rfl
           have hx13_1 : wr.cell? ⟨go13, ((rd x4_1 ((J67 l0 x5_1).f0)) : Int).toNat * 11 + 1, none⟩ = some (.int .i64 ((J76 x3_1 (rd x4_1 ((J67 l0 x5_1).f0))).f1.f0)) := hcc13 1 _ rfl
           have hx13_2 : wr.cell? ⟨go13, ((rd x4_1 ((J67 l0 x5_1).f0)) : Int).toNat * 11 + 2, none⟩ = some (.int .i64 ((J76 x3_1 (rd x4_1 ((J67 l0 x5_1).f0))).f1.f1)) := hcc13 2 _ rfl
           have hx13_3 : wr.cell? ⟨go13, ((rd x4_1 ((J67 l0 x5_1).f0)) : Int).toNat * 11 + 3, none⟩ = some (.int .i64 ((J76 x3_1 (rd x4_1 ((J67 l0 x5_1).f0))).f1.f2)) := hcc13 3 _ rfl
           have hx13_4 : wr.cell? ⟨go13, ((rd x4_1 ((J67 l0 x5_1).f0)) : Int).toNat * 11 + 4, none⟩ = some (.int .i64 ((J76 x3_1 (rd x4_1 ((J67 l0 x5_1).f0))).f1.f3)) := hcc13 4 _ rfl
           have hx13_5 : wr.cell? ⟨go13, ((rd x4_1 ((J67 l0 x5_1).f0)) : Int).toNat * 11 + 5, none⟩ = some (.bool ((J76 x3_1 (rd x4_1 ((J67 l0 x5_1).f0))).f2.f0)) := hcc13 5 _ rfl
           have hx13_6 : wr.cell? ⟨go13, ((rd x4_1 ((J67 l0 x5_1).f0)) : Int).toNat * 11 + 6, none⟩ = some (.int .i64 ((J76 x3_1 (rd x4_1 ((J67 l0 x5_1).f0))).f2.f1)) := hcc13 6 _ rfl
           have hx13_7 : wr.cell? ⟨go13, ((rd x4_1 ((J67 l0 x5_1).f0)) : Int).toNat * 11 + 7, none⟩ = some (.int .i64 ((J76 x3_1 (rd x4_1 ((J67 l0 x5_1).f0))).f2.f2)) := hcc13 7 _ rfl
           have hx13_8 : wr.cell? ⟨go13, ((rd x4_1 ((J67 l0 x5_1).f0)) : Int).toNat * 11 + 8, none⟩ = some (ve13_8) := hcc13 8 _ rfl
           have hx13_9 : wr.cell? ⟨go13, ((rd x4_1 ((J67 l0 x5_1).f0)) : Int).toNat * 11 + 9, none⟩ = some (.int .i64 ((J76 x3_1 (rd x4_1 ((J67 l0 x5_1).f0))).f3)) := hcc13 9 _ rfl
           have hx13_10 : wr.cell? ⟨go13, ((rd x4_1 ((J67 l0 x5_1).f0)) : Int).toNat * 11 + 10, none⟩ = some (.int .i64 ((J76 x3_1 (rd x4_1 ((J67 l0 x5_1).f0))).f4)) := hcc13 10 _ rfl
           have hf13_0 : wr.frozen? ⟨go13, ((rd x4_1 ((J67 l0 x5_1).f0)) : Int).toNat * 11, none⟩ = false := hfr13 0
           have hf13_1 : wr.frozen? ⟨go13, ((rd x4_1 ((J67 l0 x5_1).f0)) : Int).toNat * 11 + 1, none⟩ = false := hfr13 1
           have hf13_2 : wr.frozen? ⟨go13, ((rd x4_1 ((J67 l0 x5_1).f0)) : Int).toNat * 11 + 2, none⟩ = false := hfr13 2
           have hf13_3 : wr.frozen? ⟨go13, ((rd x4_1 ((J67 l0 x5_1).f0)) : Int).toNat * 11 + 3, none⟩ = false := hfr13 3
           have hf13_4 : wr.frozen? ⟨go13, ((rd x4_1 ((J67 l0 x5_1).f0)) : Int).toNat * 11 + 4, none⟩ = false := hfr13 4
           have hf13_5 : wr.frozen? ⟨go13, ((rd x4_1 ((J67 l0 x5_1).f0)) : Int).toNat * 11 + 5, none⟩ = false := hfr13 5
           have hf13_6 : wr.frozen? ⟨go13, ((rd x4_1 ((J67 l0 x5_1).f0)) : Int).toNat * 11 + 6, none⟩ = false := hfr13 6
           have hf13_7 : wr.frozen? ⟨go13, ((rd x4_1 ((J67 l0 x5_1).f0)) : Int).toNat * 11 + 7, none⟩ = false := hfr13 7
           have hf13_8 : wr.frozen? ⟨go13, ((rd x4_1 ((J67 l0 x5_1).f0)) : Int).toNat * 11 + 8, none⟩ = false := hfr13 8
           have hf13_9 : wr.frozen? ⟨go13, ((rd x4_1 ((J67 l0 x5_1).f0)) : Int).toNat * 11 + 9, none⟩ = false := hfr13 9
           have hf13_10 : wr.frozen? ⟨go13, ((rd x4_1 ((J67 l0 x5_1).f0)) : Int).toNat * 11 + 10, none⟩ = false := hfr13 10
           clear hcl13 hcc13 hfr13 hM13
           replace p13 := eq_true p13
           replace q13 := eq_true q13
           have HX17 := asd (show Kd.S k76 76 wr w.heap.size (fun k_ => ((fun _ => True)) k_ ∧ ¬ ((fun _ => False)) k_) (.slice (some ⟨go13, 0, none⟩) x3_1.length co13) x3_1 from (by (with_reducible repeat (first | apply Kd.S_alloc | apply Kd.S_drewN | apply Kd.S_drew)); exact Kd.S_mono HO_3.out (fun k_ hk => ⟨trivial, fun e_ => e_⟩)))
           obtain ⟨oki17, ce17, hcl17, hM17, hcc17, hfr17, hoki17, hH17⟩ := Kd.S_elem HX17.out z76 ((rd x4_1 ((J67 l0 x5_1).f0)) : Int) dt (by have h_ : ((rd x4_1 ((J67 l0 x5_1).f0)) : Int) < ((x3_1.length : Int) : Int) := dt; first | exact h_ | (have e_ := (Kd.S_reads' HO_3.out).1; omega) | simpa using h_)
           obtain ⟨ve17_8, rfl, ge17_8⟩ := k76_openM hM17
           have HP17 := Kd.S_seg hH17 dt (by have h_ : ((rd x4_1 ((J67 l0 x5_1).f0)) : Int) < ((x3_1.length : Int) : Int) := dt; first | exact h_ | (have e_ := (Kd.S_reads' HO_3.out).1; omega) | simpa using h_) (seg := [.int .i64 x5_1]) (j := 10) (show 11 ≤ 11 from by decide) (x' := (⟨(J76 x3_1 (rd x4_1 ((J67 l0 x5_1).f0))).f0, (⟨(J76 x3_1 (rd x4_1 ((J67 l0 x5_1).f0))).f1.f0, (J76 x3_1 (rd x4_1 ((J67 l0 x5_1).f0))).f1.f1, (J76 x3_1 (rd x4_1 ((J67 l0 x5_1).f0))).f1.f2, (J76 x3_1 (rd x4_1 ((J67 l0 x5_1).f0))).f1.f3⟩ : S33), (⟨(J76 x3_1 (rd x4_1 ((J67 l0 x5_1).f0))).f2.f0, (J76 x3_1 (rd x4_1 ((J67 l0 x5_1).f0))).f2.f1, (J76 x3_1 (rd x4_1 ((J67 l0 x5_1).f0))).f2.f2, (J76 x3_1 (rd x4_1 ((J67 l0 x5_1).f0))).f2.f3⟩ : S36), (J76 x3_1 (rd x4_1 ((J67 l0 x5_1).f0))).f3, x5_1⟩ : S76)) (k76_mkM _ _ _ (⟨(J76 x3_1 (rd x4_1 ((J67 l0 x5_1).f0))).f0, (⟨(J76 x3_1 (rd x4_1 ((J67 l0 x5_1).f0))).f1.f0, (J76 x3_1 (rd x4_1 ((J67 l0 x5_1).f0))).f1.f1, (J76 x3_1 (rd x4_1 ((J67 l0 x5_1).f0))).f1.f2, (J76 x3_1 (rd x4_1 ((J67 l0 x5_1).f0))).f1.f3⟩ : S33), (⟨(J76 x3_1 (rd x4_1 ((J67 l0 x5_1).f0))).f2.f0, (J76 x3_1 (rd x4_1 ((J67 l0 x5_1).f0))).f2.f1, (J76 x3_1 (rd x4_1 ((J67 l0 x5_1).f0))).f2.f2, (J76 x3_1 (rd x4_1 ((J67 l0 x5_1).f0))).f2.f3⟩ : S36), (J76 x3_1 (rd x4_1 ((J67 l0 x5_1).f0))).f3, x5_1⟩ : S76) (Kd.R_mono ge17_8 (fun _ h_ => Or.inl h_))) (fun _ hk => hk) (fun k_ hk_ => hk_.elim)
           have hx17_10 := hcc17 10 _ rfl
           (try simp only [show (k76).sz = 11 from rfl, Nat.mul_one, Nat.add_zero] at hx17_10)
           have hf17_10 := hfr17 10
           (try simp only [show (k76).sz = 11 from rfl, Nat.mul_one, Nat.add_zero] at hf17_10)
           clear hcl17 hcc17 hfr17 hM17 hoki17 hH17
           go_wp2_with (first | ((with_reducible refine gate_store (t := 3) (p := 56) rfl ?_); refine store_event (t := 3) (p := 56) (v := ?vo_w18) (w1 := (wr.setCell ⟨go13, ((rd x4_1 ((J67 l0 x5_1).f0)) : Int).toNat * 11 + 10, none⟩ (.int .i64 x5_1))) ?hg ?ho ?hn ?hr ?_; (case ho => rfl); (case hg => rfl); (case hn => rfl); (case hr => first | (go_simp; done) | (go_simp; rfl)); intro w18 hw; have hg : wr.grownBy w18 (some go13) := (by rw [hw]; exact HP17.2); have hp_ : Kd.S k76 76 w18 w.heap.size (fun _ => True) (.slice (some ⟨go13, 0, none⟩) x3_1.length co13) y174 := (by rw [hw, Ny174.out]; exact HP17.1); clear HP17; have n0_ := asd (hp_); have n1_ := asd (Kd.R_over' (v := (.slice (some ⟨go13, 0, none⟩) x3_1.length co13)) (skR HO_4.out) (Kd.S_typed HO_3.out) (by decide) hg); have n2_ := asd ((by rw [hw]; exact below_set (HB.out) GB13.out : Below w.heap.size w w18)); clear HO_3; clear HO_4; clear HB; have HO_3 := n0_; have HO_4 := n1_; have HB := n2_; clear n0_ n1_ n2_; clear hg hw hp_; have p175 : 0 ≤ (x5_1 : Int) := dt; have q175 : x5_1 < (l0.length : Int) := dt; obtain ⟨ad175, A175_9, c175_9, e175, hx175_0, hx175_1, hx175_2, hx175_3, hx175_4, hx175_5, hx175_6, hx175_7, hx175_8, hx175_9, hl175_9, hi175_9⟩ := at_T67 HR0.out x5_1 p175 q175; (try rw [← Nbq7.out] at hx175_1); (try rw [← Nbq7.out] at hx175_6); obtain rfl : ad171 = ad175 := (by injection e175); replace hx175_0 := skc HB.out hx175_0; replace hx175_1 := skc HB.out hx175_1; replace hx175_2 := skc HB.out hx175_2; replace hx175_3 := skc HB.out hx175_3; replace hx175_4 := skc HB.out hx175_4; replace hx175_5 := skc HB.out hx175_5; replace hx175_6 := skc HB.out hx175_6; replace hx175_7 := skc HB.out hx175_7; replace hx175_8 := skc HB.out hx175_8; replace hx175_9 := skc HB.out hx175_9; have HR175_9 := asd hi175_9; have HC175_9 := asd hl175_9; clear hi175_9 hl175_9; replace p175 := eq_true p175; replace q175 := eq_true q175) | ((with_reducible refine gate_callee (f := 65) rfl ?_); refine goesL_ (some 64) rfl rfl Try.func65 (by kernel_rfl) rfl #[.agg #[.bool ((J67 l0 x5_1).f3.f0), .int .i64 ((J67 l0 x5_1).f3.f1), .int .i64 ((J67 l0 x5_1).f3.f2), .slice A175_9 ((J67 l0 x5_1).f3.f3).length c175_9]] rfl ags ?_; (with_reducible refine (larchref05_CopyRet.calls ((J67 l0 x5_1).f3.f0) ((J67 l0 x5_1).f3.f1) ((J67 l0 x5_1).f3.f2) _ _ ((J67 l0 x5_1).f3.f3) t176 t177 t178 t179 _ ?side1 ?side2 A14.out).mono ?_); (case side1 => exact skC (Kd.C_below HR175_9.out HB.out)); (case side2 => exact HC175_9.out); rintro e w19 ⟨v180, rfl, ho0, hb⟩; obtain ⟨Av180, cv180, rfl⟩ := Kd.R_slice ho0; refine ⟨_, rfl, ?_⟩; have n0_ := asd (Kd.S_elder' (by (with_reducible repeat (first | apply Kd.S_alloc | apply Kd.S_drewN | apply Kd.S_drew)); exact HO_3.out) (Kd.R_base ho0) hb); have n1_ := asd (Kd.R_below (skR HO_4.out) hb); have n2_ := asd (Kd.R_lower ho0 (below_size (skB HB.out))); have n3_ := asd (below_step (skB HB.out) hb); clear HO_3; clear HO_4; clear HB; have HO_3 := n0_; have HO_4 := n1_; have HO181 := n2_; have HB := n3_; clear n0_ n1_ n2_ n3_; (try clear hb); (try clear hb2); (try clear hk); (try clear hi); (try clear ho0); have p15 : 0 ≤ ((rd x4_1 ((J67 l0 x5_1).f0)) : Int) := dt; have q15 : ((rd x4_1 ((J67 l0 x5_1).f0)) : Int) < ((x3_1.length : Int) : Int) := dt; obtain ⟨_, ce15, hcl15, hM15, hcc15, hfr15, _, _⟩ := Kd.S_elem HO_3.out z76 ((rd x4_1 ((J67 l0 x5_1).f0)) : Int) p15 q15; obtain ⟨ve15_8, rfl, ge15_8⟩ := k76_openM hM15; have hx15_0 : w19.cell? ⟨go13, ((rd x4_1 ((J67 l0 x5_1).f0)) : Int).toNat * 11, none⟩ = some (.int .i64 ((J76 y174 (rd x4_1 ((J67 l0 x5_1).f0))).f0)) := hcc15 0 _ rfl; have hx15_1 : w19.cell? ⟨go13, ((rd x4_1 ((J67 l0 x5_1).f0)) : Int).toNat * 11 + 1, none⟩ = some (.int .i64 ((J76 y174 (rd x4_1 ((J67 l0 x5_1).f0))).f1.f0)) := hcc15 1 _ rfl; have hx15_2 : w19.cell? ⟨go13, ((rd x4_1 ((J67 l0 x5_1).f0)) : Int).toNat * 11 + 2, none⟩ = some (.int .i64 ((J76 y174 (rd x4_1 ((J67 l0 x5_1).f0))).f1.f1)) := hcc15 2 _ rfl; have hx15_3 : w19.cell? ⟨go13, ((rd x4_1 ((J67 l0 x5_1).f0)) : Int).toNat * 11 + 3, none⟩ = some (.int .i64 ((J76 y174 (rd x4_1 ((J67 l0 x5_1).f0))).f1.f2)) := hcc15 3 _ rfl; have hx15_4 : w19.cell? ⟨go13, ((rd x4_1 ((J67 l0 x5_1).f0)) : Int).toNat * 11 + 4, none⟩ = some (.int .i64 ((J76 y174 (rd x4_1 ((J67 l0 x5_1).f0))).f1.f3)) := hcc15 4 _ rfl; have hx15_5 : w19.cell? ⟨go13, ((rd x4_1 ((J67 l0 x5_1).f0)) : Int).toNat * 11 + 5, none⟩ = some (.bool ((J76 y174 (rd x4_1 ((J67 l0 x5_1).f0))).f2.f0)) := hcc15 5 _ rfl; have hx15_6 : w19.cell? ⟨go13, ((rd x4_1 ((J67 l0 x5_1).f0)) : Int).toNat * 11 + 6, none⟩ = some (.int .i64 ((J76 y174 (rd x4_1 ((J67 l0 x5_1).f0))).f2.f1)) := hcc15 6 _ rfl; have hx15_7 : w19.cell? ⟨go13, ((rd x4_1 ((J67 l0 x5_1).f0)) : Int).toNat * 11 + 7, none⟩ = some (.int .i64 ((J76 y174 (rd x4_1 ((J67 l0 x5_1).f0))).f2.f2)) := hcc15 7 _ rfl; have hx15_8 : w19.cell? ⟨go13, ((rd x4_1 ((J67 l0 x5_1).f0)) : Int).toNat * 11 + 8, none⟩ = some (ve15_8) := hcc15 8 _ rfl; have hx15_9 : w19.cell? ⟨go13, ((rd x4_1 ((J67 l0 x5_1).f0)) : Int).toNat * 11 + 9, none⟩ = some (.int .i64 ((J76 y174 (rd x4_1 ((J67 l0 x5_1).f0))).f3)) := hcc15 9 _ rfl; have hx15_10 : w19.cell? ⟨go13, ((rd x4_1 ((J67 l0 x5_1).f0)) : Int).toNat * 11 + 10, none⟩ = some (.int .i64 ((J76 y174 (rd x4_1 ((J67 l0 x5_1).f0))).f4)) := hcc15 10 _ rfl; have hf15_0 : w19.frozen? ⟨go13, ((rd x4_1 ((J67 l0 x5_1).f0)) : Int).toNat * 11, none⟩ = false := hfr15 0; have hf15_1 : w19.frozen? ⟨go13, ((rd x4_1 ((J67 l0 x5_1).f0)) : Int).toNat * 11 + 1, none⟩ = false := hfr15 1; have hf15_2 : w19.frozen? ⟨go13, ((rd x4_1 ((J67 l0 x5_1).f0)) : Int).toNat * 11 + 2, none⟩ = false := hfr15 2; have hf15_3 : w19.frozen? ⟨go13, ((rd x4_1 ((J67 l0 x5_1).f0)) : Int).toNat * 11 + 3, none⟩ = false := hfr15 3; have hf15_4 : w19.frozen? ⟨go13, ((rd x4_1 ((J67 l0 x5_1).f0)) : Int).toNat * 11 + 4, none⟩ = false := hfr15 4; have hf15_5 : w19.frozen? ⟨go13, ((rd x4_1 ((J67 l0 x5_1).f0)) : Int).toNat * 11 + 5, none⟩ = false := hfr15 5; have hf15_6 : w19.frozen? ⟨go13, ((rd x4_1 ((J67 l0 x5_1).f0)) : Int).toNat * 11 + 6, none⟩ = false := hfr15 6; have hf15_7 : w19.frozen? ⟨go13, ((rd x4_1 ((J67 l0 x5_1).f0)) : Int).toNat * 11 + 7, none⟩ = false := hfr15 7; have hf15_8 : w19.frozen? ⟨go13, ((rd x4_1 ((J67 l0 x5_1).f0)) : Int).toNat * 11 + 8, none⟩ = false := hfr15 8; have hf15_9 : w19.frozen? ⟨go13, ((rd x4_1 ((J67 l0 x5_1).f0)) : Int).toNat * 11 + 9, none⟩ = false := hfr15 9; have hf15_10 : w19.frozen? ⟨go13, ((rd x4_1 ((J67 l0 x5_1).f0)) : Int).toNat * 11 + 10, none⟩ = false := hfr15 10; clear hcl15 hcc15 hfr15 hM15; replace p15 := eq_true p15; replace q15 := eq_true q15; have n_ := asd (Kd.S_mono (ok' := (fun k_ => some k_ ≠ ((.slice Av180 t179.length cv180 : Value) : Value).ownBlock)) HO_3.out (fun k_ hk => hk.2)); clear HO_3; have HO_3 := n_; clear n_; have HX20 := asd (show Kd.S k76 76 w19 w.heap.size (fun k_ => ((fun _ => True)) k_ ∧ ¬ ((fun k_ => some k_ = ((.slice Av180 t179.length cv180 : Value) : Value).ownBlock)) k_) (.slice (some ⟨go13, 0, none⟩) x3_1.length co13) y174 from (by (with_reducible repeat (first | apply Kd.S_alloc | apply Kd.S_drewN | apply Kd.S_drew)); exact Kd.S_mono HO_3.out (fun k_ hk => ⟨trivial, fun e_ => hk e_⟩))); obtain ⟨oki20, ce20, hcl20, hM20, hcc20, hfr20, hoki20, hH20⟩ := Kd.S_elem HX20.out z76 ((rd x4_1 ((J67 l0 x5_1).f0)) : Int) dt (by have h_ : ((rd x4_1 ((J67 l0 x5_1).f0)) : Int) < ((x3_1.length : Int) : Int) := dt; first | exact h_ | (have e_ := (Kd.S_reads' HO_3.out).1; omega) | simpa using h_); obtain ⟨ve20_8, rfl, ge20_8⟩ := k76_openM hM20; have HP20 := Kd.S_seg hH20 dt (by have h_ : ((rd x4_1 ((J67 l0 x5_1).f0)) : Int) < ((x3_1.length : Int) : Int) := dt; first | exact h_ | (have e_ := (Kd.S_reads' HO_3.out).1; omega) | simpa using h_) (seg := [.bool t176, .int .i64 t177, .int .i64 t178, (.slice Av180 t179.length cv180 : Value)]) (j := 5) (show 9 ≤ 11 from by decide) (x' := (⟨(J76 y174 (rd x4_1 ((J67 l0 x5_1).f0))).f0, (⟨(J76 y174 (rd x4_1 ((J67 l0 x5_1).f0))).f1.f0, (J76 y174 (rd x4_1 ((J67 l0 x5_1).f0))).f1.f1, (J76 y174 (rd x4_1 ((J67 l0 x5_1).f0))).f1.f2, (J76 y174 (rd x4_1 ((J67 l0 x5_1).f0))).f1.f3⟩ : S33), (⟨t176, t177, t178, t179⟩ : S36), (J76 y174 (rd x4_1 ((J67 l0 x5_1).f0))).f3, (J76 y174 (rd x4_1 ((J67 l0 x5_1).f0))).f4⟩ : S76)) (k76_mkM _ _ _ (⟨(J76 y174 (rd x4_1 ((J67 l0 x5_1).f0))).f0, (⟨(J76 y174 (rd x4_1 ((J67 l0 x5_1).f0))).f1.f0, (J76 y174 (rd x4_1 ((J67 l0 x5_1).f0))).f1.f1, (J76 y174 (rd x4_1 ((J67 l0 x5_1).f0))).f1.f2, (J76 y174 (rd x4_1 ((J67 l0 x5_1).f0))).f1.f3⟩ : S33), (⟨t176, t177, t178, t179⟩ : S36), (J76 y174 (rd x4_1 ((J67 l0 x5_1).f0))).f3, (J76 y174 (rd x4_1 ((J67 l0 x5_1).f0))).f4⟩ : S76) (Kd.R_mono (Kd.R_tight rfl (Kd.R_mono (ok' := fun k_ => ((fun _ => True)) k_ ∧ k_ ≠ go13) (Kd.R_apart' (HO181.out) (Kd.S_typed HO_3.out) (by decide)) (fun k_ hk => ⟨trivial, fun e_ => (hk.2) (by rw [e_]; rfl)⟩))) (fun _ h_ => Or.inr (h_)))) (fun _ hk => hk) (fun k_ hk_ => ((Kd.R_mono (ok' := fun k_ => ((fun _ => True)) k_ ∧ k_ ≠ go13) (Kd.R_apart' (HO181.out) (Kd.S_typed HO_3.out) (by decide)) (fun k_ hk => ⟨trivial, fun e_ => (hk.2) (by rw [e_]; rfl)⟩))).1 k_ hk_.symm); have hx20_5 := hcc20 5 _ rfl; (try simp only [show (k76).sz = 11 from rfl, Nat.mul_one, Nat.add_zero] at hx20_5); have hf20_5 := hfr20 5; (try simp only [show (k76).sz = 11 from rfl, Nat.mul_one, Nat.add_zero] at hf20_5); have hx20_6 := hcc20 6 _ rfl; (try simp only [show (k76).sz = 11 from rfl, Nat.mul_one, Nat.add_zero] at hx20_6); have hf20_6 := hfr20 6; (try simp only [show (k76).sz = 11 from rfl, Nat.mul_one, Nat.add_zero] at hf20_6); have hx20_7 := hcc20 7 _ rfl; (try simp only [show (k76).sz = 11 from rfl, Nat.mul_one, Nat.add_zero] at hx20_7); have hf20_7 := hfr20 7; (try simp only [show (k76).sz = 11 from rfl, Nat.mul_one, Nat.add_zero] at hf20_7); have hx20_8 := hcc20 8 _ rfl; (try simp only [show (k76).sz = 11 from rfl, Nat.mul_one, Nat.add_zero] at hx20_8); have hf20_8 := hfr20 8; (try simp only [show (k76).sz = 11 from rfl, Nat.mul_one, Nat.add_zero] at hf20_8); clear hcl20 hcc20 hfr20 hM20 hoki20 hH20) | ((with_reducible refine gate_store (t := 36) (p := 66) rfl ?_); refine store_event (t := 36) (p := 66) (v := ?vo_w21) (w1 := ((((w19.setCell ⟨go13, ((rd x4_1 ((J67 l0 x5_1).f0)) : Int).toNat * 11 + 5, none⟩ (.bool t176)).setCell ⟨go13, ((rd x4_1 ((J67 l0 x5_1).f0)) : Int).toNat * 11 + 6, none⟩ (.int .i64 t177)).setCell ⟨go13, ((rd x4_1 ((J67 l0 x5_1).f0)) : Int).toNat * 11 + 7, none⟩ (.int .i64 t178)).setCell ⟨go13, ((rd x4_1 ((J67 l0 x5_1).f0)) : Int).toNat * 11 + 8, none⟩ ((.slice Av180 t179.length cv180 : Value)))) ?hg ?ho ?hn ?hr ?_; (case ho => rfl); (case hg => rfl); (case hn => rfl); (case hr => first | (go_simp; done) | (go_simp; rfl)); intro w21 hw; have hg : w19.grownBy w21 (some go13) := (by rw [hw]; exact HP20.2); have hp_ : Kd.S k76 76 w21 w.heap.size (fun _ => True) (.slice (some ⟨go13, 0, none⟩) x3_1.length co13) y182 := (by rw [hw, Ny182.out]; exact HP20.1); clear HP20; have n0_ := asd (hp_); have n1_ := asd (Kd.R_over' (v := (.slice (some ⟨go13, 0, none⟩) x3_1.length co13)) (skR HO_4.out) (Kd.S_typed HO_3.out) (by decide) hg); have n2_ := asd ((by rw [hw]; exact below_set (below_set (below_set (below_set (HB.out) GB13.out) GB13.out) GB13.out) GB13.out : Below w.heap.size w w21)); clear HO_3; clear HO_4; clear HB; clear HO181; have HO_3 := n0_; have HO_4 := n1_; have HB := n2_; clear n0_ n1_ n2_; clear hg hw hp_))
           go_roundg k1
           case measure => have := HK1.out; omega
           case rel => exact ⟨(y182), (x4_1), (wrap64 (x5_1 + 1)), rs, H', ⟨by have := HK1.out; omega⟩, ⟨by (with_reducible repeat (first | apply Kd.S_alloc | apply Kd.S_drewN | apply Kd.S_drew)); exact HO_3.out⟩, ⟨skR HO_4.out⟩, ⟨skB HB.out⟩⟩
          ·
           rw [if_neg c12] at H
           exact absurd H (by simp)
         ·
          rw [if_neg c11] at H
          exact absurd H (by simp)
        ·
         rw [if_neg c10] at H
         exact absurd H (by simp)
       ·
        rw [if_neg c9] at H
        exact absurd H (by simp)
      ·
       replace c8 := Bool.eq_false_iff.mpr c8
       subst c8
       have H1 : (if 0 ≤ ((J67 l0 x5_1).f0) then (if ((J67 l0 x5_1).f0) < (x4_1.length : Int) then (if x3_1.length < 1353245080339 then (larchref05_calls.l0 k1 l0 (x3_1 ++ [(⟨(J67 l0 x5_1).f0, (⟨(J67 l0 x5_1).f2.f0, (J67 l0 x5_1).f2.f1, (J67 l0 x5_1).f2.f2, (J67 l0 x5_1).f2.f3⟩ : S33), (⟨false, 0, 0, ([] : List (S70))⟩ : S36), x5_1, (-1)⟩ : S76)]) (x4_1.set (((J67 l0 x5_1).f0) : Int).toNat (x3_1.length : Int)) (wrap64 (x5_1 + 1))) else (none)) else (none)) else (none)) = some r := by rw [if_neg (show ¬ (false = true) by decide)] at H; exact H
       clear H
       have H := H1
       clear H1
       by_cases c22 : 0 ≤ ((J67 l0 x5_1).f0)
       ·
        rw [if_pos c22] at H
        have c22b0 : decide (0 ≤ ((J67 l0 x5_1).f0)) = true := decide_eq_true c22
        clear c22
        by_cases c23 : ((J67 l0 x5_1).f0) < (x4_1.length : Int)
        ·
         rw [if_pos c23] at H
         have c23b0 : decide (((J67 l0 x5_1).f0) < (x4_1.length : Int)) = true := decide_eq_true c23
         clear c23
         obtain ⟨y184, hy184⟩ : ∃ y_ : List Int, y_ = (x4_1.set (((J67 l0 x5_1).f0) : Int).toNat (x3_1.length : Int)) := ⟨_, rfl⟩
         replace H : (if x3_1.length < 1353245080339 then (larchref05_calls.l0 k1 l0 (x3_1 ++ [(⟨(J67 l0 x5_1).f0, (⟨(J67 l0 x5_1).f2.f0, (J67 l0 x5_1).f2.f1, (J67 l0 x5_1).f2.f2, (J67 l0 x5_1).f2.f3⟩ : S33), (⟨false, 0, 0, ([] : List (S70))⟩ : S36), x5_1, (-1)⟩ : S76)]) y184 (wrap64 (x5_1 + 1))) else (none)) = some r := by first | (rw [hy184]; with_reducible exact H) | (have H2_ := (Option.bind_some _ _).symm.trans H; rw [hy184]; with_reducible exact H2_) | (have H2_ := (Option.bind_some _ _).symm.trans H; with_reducible exact H2_) | with_reducible exact H | (rw [hy184]; exact H) | exact H
         have Ny184 := asd hy184
         clear hy184
         by_cases c25 : x3_1.length < 1353245080339
         ·
          rw [if_pos c25] at H
          have LMc25 := asd c25
          clear c25
          obtain ⟨y187, hy187⟩ : ∃ y_ : List (S76), y_ = (x3_1 ++ [(⟨(J67 l0 x5_1).f0, (⟨(J67 l0 x5_1).f2.f0, (J67 l0 x5_1).f2.f1, (J67 l0 x5_1).f2.f2, (J67 l0 x5_1).f2.f3⟩ : S33), (⟨false, 0, 0, ([] : List (S70))⟩ : S36), x5_1, (-1)⟩ : S76)]) := ⟨_, rfl⟩
          replace H : (larchref05_calls.l0 k1 l0 y187 y184 (wrap64 (x5_1 + 1))) = some r := by first | (rw [hy187]; with_reducible exact H) | (have H2_ := (Option.bind_some _ _).symm.trans H; rw [hy187]; with_reducible exact H2_) | (have H2_ := (Option.bind_some _ _).symm.trans H; with_reducible exact H2_) | with_reducible exact H | (rw [hy187]; exact H) | exact H
          have Ny187 := asd hy187
          clear hy187
          have H' := asd H
          clear H
          have p171 : 0 ≤ (x5_1 : Int) := dt
          have q171 : x5_1 < (l0.length : Int) := dt
          obtain ⟨ad171, A171_9, c171_9, e171, hx171_0, hx171_1, hx171_2, hx171_3, hx171_4, hx171_5, hx171_6, hx171_7, hx171_8, hx171_9, hl171_9, hi171_9⟩ := at_T67 HR0.out x5_1 p171 q171
          (try rw [← Nbq7.out] at hx171_1)
          (try rw [← Nbq7.out] at hw171_1)
          (try rw [← Nbq7.out] at hx171_6)
          (try rw [← Nbq7.out] at hw171_6)
          cases e171
          replace hx171_0 := skc HB.out hx171_0
          replace hx171_1 := skc HB.out hx171_1
          replace hx171_2 := skc HB.out hx171_2
          replace hx171_3 := skc HB.out hx171_3
          replace hx171_4 := skc HB.out hx171_4
          replace hx171_5 := skc HB.out hx171_5
          replace hx171_6 := skc HB.out hx171_6
          replace hx171_7 := skc HB.out hx171_7
          replace hx171_8 := skc HB.out hx171_8
          replace hx171_9 := skc HB.out hx171_9
          have HR171_9 := asd hi171_9
          have HC171_9 := asd hl171_9
          clear hi171_9 hl171_9
          replace p171 := eq_true p171
          replace q171 := eq_true q171
          have p183 : 0 ≤ (x5_1 : Int) := dt
          have q183 : x5_1 < (l0.length : Int) := dt
          obtain ⟨ad183, A183_9, c183_9, e183, hx183_0, hx183_1, hx183_2, hx183_3, hx183_4, hx183_5, hx183_6, hx183_7, hx183_8, hx183_9, hl183_9, hi183_9⟩ := at_T67 HR0.out x5_1 p183 q183
          (try rw [← Nbq7.out] at hx183_1)
          (try rw [← Nbq7.out] at hw183_1)
          (try rw [← Nbq7.out] at hx183_6)
          (try rw [← Nbq7.out] at hw183_6)
          obtain rfl : ad171 = ad183 := (by injection e183)
          replace hx183_0 := skc HB.out hx183_0
          replace hx183_1 := skc HB.out hx183_1
          replace hx183_2 := skc HB.out hx183_2
          replace hx183_3 := skc HB.out hx183_3
          replace hx183_4 := skc HB.out hx183_4
          replace hx183_5 := skc HB.out hx183_5
          replace hx183_6 := skc HB.out hx183_6
          replace hx183_7 := skc HB.out hx183_7
          replace hx183_8 := skc HB.out hx183_8
          replace hx183_9 := skc HB.out hx183_9
          have HR183_9 := asd hi183_9
          have HC183_9 := asd hl183_9
          clear hi183_9 hl183_9
          replace p183 := eq_true p183
          replace q183 := eq_true q183
          have ea_ := Option.some.inj (hx171_9.symm.trans hx183_9)
          injection ea_ with ea_ en_ ec_
          subst ea_
          subst ec_
          clear en_
          obtain ⟨Ao26, co26, eo26⟩ := Kd.S_slice HO_3.out
          subst eo26
          have p24 : 0 ≤ (((J67 l0 x5_1).f0) : Int) := dt
          have q24 : (((J67 l0 x5_1).f0) : Int) < ((x4_1.length : Int) : Int) := dt
          obtain ⟨go24, co24, eo24, gb24, gl24, cl24, HG24⟩ := Kd.R_form HO_4.out (by omega)
          (first | cases eo24 | (injection eo24 with ea_ en_ ec_; (first | subst ea_ | (injection ea_ with ea_; subst ea_)); subst ec_; clear en_))
          have GB24 := asd gb24
          have GG24 := asd HG24
          clear gb24 gl24 HG24
          obtain ⟨hx24_0, hf24_0⟩ := Kd.R_celln 0 HO_4.out (((J67 l0 x5_1).f0) : Int) p24 q24
          replace p24 := eq_true p24
          replace q24 := eq_true q24
          have HP27 := Kd.R_putg HO_4.out (((J67 l0 x5_1).f0) : Int) (x3_1.length : Int)
          try go_wp2_with (first | ((with_reducible refine gate_store (t := 3) (p := 28) rfl ?_); refine store_event (t := 3) (p := 28) (v := ?vo_w28) (w1 := (wr.setCell ⟨go24, (((J67 l0 x5_1).f0) : Int).toNat, none⟩ (.int .i64 (x3_1.length : Int)))) ?hg ?ho ?hn ?hr ?_; (case ho => rfl); (case hg => rfl); (case hn => rfl); (case hr => first | (go_simp; done) | (go_simp; rfl)); intro w28 hw; have hg : wr.grownBy w28 (some go24) := (by rw [hw]; exact HP27.2); have hp_ : Kd.R (Kd.int .i64) 3 w28 w.heap.size (fun _ => True) (.slice (some ⟨go24, 0, none⟩) x4_1.length co24) y184 := (by rw [hw, Ny184.out]; exact HP27.1); clear HP27; have n0_ := asd (Kd.S_over' (v := (.slice (some ⟨go24, 0, none⟩) x4_1.length co24)) (by (with_reducible repeat (first | apply Kd.S_alloc | apply Kd.S_drewN | apply Kd.S_drew)); exact HO_3.out) (Kd.R_typed HO_4.out) (by decide) hg); have n1_ := asd (hp_); have n2_ := asd ((by rw [hw]; exact below_set (HB.out) GB24.out : Below w.heap.size w w28)); clear HO_3; clear HO_4; clear HB; have HO_3 := n0_; have HO_4 := n1_; have HB := n2_; clear n0_ n1_ n2_; clear hg hw hp_))
          have n0_ := asd (Kd.S_drew HO_3.out)
          have n1_ := asd (Kd.R_drew HO_4.out)
          have n2_ := asd (below_drew1 HB.out)
          clear HO_3
          clear HO_4
          clear HB
          have HO_3 := n0_
          have HO_4 := n1_
          have HB := n2_
          clear n0_ n1_ n2_
          have p185 : 0 ≤ (x5_1 : Int) := dt
          have q185 : x5_1 < (l0.length : Int) := dt
          obtain ⟨ad185, A185_9, c185_9, e185, hx185_0, hx185_1, hx185_2, hx185_3, hx185_4, hx185_5, hx185_6, hx185_7, hx185_8, hx185_9, hl185_9, hi185_9⟩ := at_T67 HR0.out x5_1 p185 q185
          have hw185_9 := hx185_9
          have hw185_8 := hx185_8
          have hw185_7 := hx185_7
          have hw185_6 := hx185_6
          have hw185_5 := hx185_5
          have hw185_4 := hx185_4
          have hw185_3 := hx185_3
          have hw185_2 := hx185_2
          have hw185_1 := hx185_1
          have hw185_0 := hx185_0
          (try rw [← Nbq7.out] at hx185_1)
          (try rw [← Nbq7.out] at hw185_1)
          (try rw [← Nbq7.out] at hx185_6)
          (try rw [← Nbq7.out] at hw185_6)
          obtain rfl : ad171 = ad185 := (by injection e185)
          replace hx185_0 := skc HB.out hx185_0
          replace hx185_1 := skc HB.out hx185_1
          replace hx185_2 := skc HB.out hx185_2
          replace hx185_3 := skc HB.out hx185_3
          replace hx185_4 := skc HB.out hx185_4
          replace hx185_5 := skc HB.out hx185_5
          replace hx185_6 := skc HB.out hx185_6
          replace hx185_7 := skc HB.out hx185_7
          replace hx185_8 := skc HB.out hx185_8
          replace hx185_9 := skc HB.out hx185_9
          have HR185_9 := asd hi185_9
          have HC185_9 := asd hl185_9
          clear hi185_9 hl185_9
          replace p185 := eq_true p185
          replace q185 := eq_true q185
          have p186 : 0 ≤ (x5_1 : Int) := dt
          have q186 : x5_1 < (l0.length : Int) := dt
          obtain ⟨ad186, A186_9, c186_9, e186, hx186_0, hx186_1, hx186_2, hx186_3, hx186_4, hx186_5, hx186_6, hx186_7, hx186_8, hx186_9, hl186_9, hi186_9⟩ := at_T67 HR0.out x5_1 p186 q186
          have hw186_9 := hx186_9
          have hw186_8 := hx186_8
          have hw186_7 := hx186_7
          have hw186_6 := hx186_6
          have hw186_5 := hx186_5
          have hw186_4 := hx186_4
          have hw186_3 := hx186_3
          have hw186_2 := hx186_2
          have hw186_1 := hx186_1
          have hw186_0 := hx186_0
          (try rw [← Nbq7.out] at hx186_1)
          (try rw [← Nbq7.out] at hw186_1)
          (try rw [← Nbq7.out] at hx186_6)
          (try rw [← Nbq7.out] at hw186_6)
          obtain rfl : ad171 = ad186 := (by injection e186)
          replace hx186_0 := skc HB.out hx186_0
          replace hx186_1 := skc HB.out hx186_1
          replace hx186_2 := skc HB.out hx186_2
          replace hx186_3 := skc HB.out hx186_3
          replace hx186_4 := skc HB.out hx186_4
          replace hx186_5 := skc HB.out hx186_5
          replace hx186_6 := skc HB.out hx186_6
          replace hx186_7 := skc HB.out hx186_7
          replace hx186_8 := skc HB.out hx186_8
          replace hx186_9 := skc HB.out hx186_9
          have HR186_9 := asd hi186_9
          have HC186_9 := asd hl186_9
          clear hi186_9 hl186_9
          replace p186 := eq_true p186
          replace q186 := eq_true q186
          have ea_ := Option.some.inj (hx185_9.symm.trans hx186_9)
          injection ea_ with ea_ en_ ec_
          subst ea_
          subst ec_
          clear en_
          refine start_ (n := 16) (S := fun w' => w'.cell? (ad171.add ((x5_1).toNat * 10)) = some (.int .i64 ((J67 l0 x5_1).f0)) ∧ w'.cell? ⟨(ad171.add ((x5_1).toNat * 10)).block, (ad171.add ((x5_1).toNat * 10)).off + 1, none⟩ = some (.bool (false)) ∧ w'.cell? ⟨(ad171.add ((x5_1).toNat * 10)).block, (ad171.add ((x5_1).toNat * 10)).off + 2, none⟩ = some (.int .i64 ((J67 l0 x5_1).f2.f0)) ∧ w'.cell? ⟨(ad171.add ((x5_1).toNat * 10)).block, (ad171.add ((x5_1).toNat * 10)).off + 3, none⟩ = some (.int .i64 ((J67 l0 x5_1).f2.f1)) ∧ w'.cell? ⟨(ad171.add ((x5_1).toNat * 10)).block, (ad171.add ((x5_1).toNat * 10)).off + 4, none⟩ = some (.int .i64 ((J67 l0 x5_1).f2.f2)) ∧ w'.cell? ⟨(ad171.add ((x5_1).toNat * 10)).block, (ad171.add ((x5_1).toNat * 10)).off + 5, none⟩ = some (.int .i64 ((J67 l0 x5_1).f2.f3)) ∧ w'.cell? ⟨(ad171.add ((x5_1).toNat * 10)).block, (ad171.add ((x5_1).toNat * 10)).off + 6, none⟩ = some (.bool ((J67 l0 x5_1).f3.f0)) ∧ w'.cell? ⟨(ad171.add ((x5_1).toNat * 10)).block, (ad171.add ((x5_1).toNat * 10)).off + 7, none⟩ = some (.int .i64 ((J67 l0 x5_1).f3.f1)) ∧ w'.cell? ⟨(ad171.add ((x5_1).toNat * 10)).block, (ad171.add ((x5_1).toNat * 10)).off + 8, none⟩ = some (.int .i64 ((J67 l0 x5_1).f3.f2)) ∧ w'.cell? ⟨(ad171.add ((x5_1).toNat * 10)).block, (ad171.add ((x5_1).toNat * 10)).off + 9, none⟩ = some (.slice A185_9 ((J67 l0 x5_1).f3.f3).length c185_9) ∧ w'.cell? (ad171.add ((x5_1).toNat * 10)) = some (.int .i64 ((J67 l0 x5_1).f0)) ∧ w'.cell? ⟨(ad171.add ((x5_1).toNat * 10)).block, (ad171.add ((x5_1).toNat * 10)).off + 1, none⟩ = some (.bool (false)) ∧ w'.cell? ⟨(ad171.add ((x5_1).toNat * 10)).block, (ad171.add ((x5_1).toNat * 10)).off + 2, none⟩ = some (.int .i64 ((J67 l0 x5_1).f2.f0)) ∧ w'.cell? ⟨(ad171.add ((x5_1).toNat * 10)).block, (ad171.add ((x5_1).toNat * 10)).off + 3, none⟩ = some (.int .i64 ((J67 l0 x5_1).f2.f1)) ∧ w'.cell? ⟨(ad171.add ((x5_1).toNat * 10)).block, (ad171.add ((x5_1).toNat * 10)).off + 4, none⟩ = some (.int .i64 ((J67 l0 x5_1).f2.f2)) ∧ w'.cell? ⟨(ad171.add ((x5_1).toNat * 10)).block, (ad171.add ((x5_1).toNat * 10)).off + 5, none⟩ = some (.int .i64 ((J67 l0 x5_1).f2.f3)) ∧ w'.cell? ⟨(ad171.add ((x5_1).toNat * 10)).block, (ad171.add ((x5_1).toNat * 10)).off + 6, none⟩ = some (.bool ((J67 l0 x5_1).f3.f0)) ∧ w'.cell? ⟨(ad171.add ((x5_1).toNat * 10)).block, (ad171.add ((x5_1).toNat * 10)).off + 7, none⟩ = some (.int .i64 ((J67 l0 x5_1).f3.f1)) ∧ w'.cell? ⟨(ad171.add ((x5_1).toNat * 10)).block, (ad171.add ((x5_1).toNat * 10)).off + 8, none⟩ = some (.int .i64 ((J67 l0 x5_1).f3.f2)) ∧ w'.cell? ⟨(ad171.add ((x5_1).toNat * 10)).block, (ad171.add ((x5_1).toNat * 10)).off + 9, none⟩ = some (.slice A185_9 ((J67 l0 x5_1).f3.f3).length c185_9)) (ds := []) #[false,false,false,false,false,false,false,false,false,false,false,false,false,false,false,false] (by kernel_rfl) rfl rfl ⟨(skc HB.out hw185_0), (skc HB.out hw185_1), (skc HB.out hw185_2), (skc HB.out hw185_3), (skc HB.out hw185_4), (skc HB.out hw185_5), (skc HB.out hw185_6), (skc HB.out hw185_7), (skc HB.out hw185_8), (skc HB.out hw185_9), (skc HB.out hw186_0), (skc HB.out hw186_1), (skc HB.out hw186_2), (skc HB.out hw186_3), (skc HB.out hw186_4), (skc HB.out hw186_5), (skc HB.out hw186_6), (skc HB.out hw186_7), (skc HB.out hw186_8), (skc HB.out hw186_9)⟩ (fun hHeld => ?_); refine with_tabW larchref05_calls.tab8 larchref05_calls.bits8 (fun HT_ HW_ => ?_)
          generalize w28.drew = w29 at HO_3 HO_4 HB HR185_9 HR186_9 hx185_0 hx185_1 hx185_2 hx185_3 hx185_4 hx185_5 hx185_6 hx185_7 hx185_8 hx185_9 hx186_0 hx186_1 hx186_2 hx186_3 hx186_4 hx186_5 hx186_6 hx186_7 hx186_8 hx186_9 hHeld ⊢
          refine pure_ (i := 0) (N := some 29) (v := ?_) (a' := ?_) #[true,false,false,false,false,false,false,false,false,false,false,false,false,false,false,false] rfl rfl (aK HT_.out) (fun _ _ _ h => h) (Or.inl ⟨by rfl, ?_⟩) ?_ ?_
          rotate_left
          ·
           intro w'
           go_simp
           with_reducible rfl
          rotate_left
          ·
           simp only [Act.put, sp]
           rfl
          refine pure_ (i := 1) (N := some 30) (v := ?_) (a' := ?_) #[true,true,false,false,false,false,false,false,false,false,false,false,false,false,false,false] rfl rfl (aK HT_.out) (fun _ _ _ h => h) (Or.inl ⟨by rfl, ?_⟩) ?_ ?_
          rotate_left
          ·
           intro w'
           go_simp
           with_reducible rfl
          rotate_left
          ·
           simp only [Act.put, sp]
           rfl
          refine pure_ (i := 2) (N := some 31) (v := ?_) (a' := ?_) #[true,true,true,false,false,false,false,false,false,false,false,false,false,false,false,false] rfl rfl (aK HT_.out) (fun _ _ _ h => h) (Or.inl ⟨by rfl, ?_⟩) ?_ ?_
          rotate_left
          ·
           intro w'
           go_simp
           with_reducible rfl
          rotate_left
          ·
           simp only [Act.put, sp]
           rfl
          refine pure_ (i := 3) (N := some 32) (v := ?_) (a' := ?_) #[true,true,true,true,false,false,false,false,false,false,false,false,false,false,false,false] rfl rfl (aK HT_.out) (fun _ _ _ h => h) (Or.inl ⟨by rfl, ?_⟩) ?_ ?_
          rotate_left
          ·
           intro w'
           go_simp
           with_reducible rfl
          rotate_left
          ·
           simp only [Act.put, sp]
           rfl
          refine pure_ (i := 4) (N := some 33) (v := ?_) (a' := ?_) #[true,true,true,true,true,false,false,false,false,false,false,false,false,false,false,false] rfl rfl (aK HT_.out) (fun _ _ _ h => h) (Or.inl ⟨by rfl, ?_⟩) ?_ ?_
          rotate_left
          ·
           intro w'
           go_simp
           with_reducible rfl
          rotate_left
          ·
           simp only [Act.put, sp]
           rfl
          refine pure_ (i := 6) (N := some 35) (v := ?_) (a' := ?_) #[true,true,true,true,true,false,true,false,false,false,false,false,false,false,false,false] rfl rfl (aK HT_.out) (fun _ _ _ h => h) (Or.inl ⟨by rfl, ?_⟩) ?_ ?_
          rotate_left
          ·
           intro w'
           go_simp
           with_reducible rfl
          rotate_left
          ·
           simp only [Act.put, sp]
           rfl
          refine pure_ (i := 7) (N := some 36) (v := ?_) (a' := ?_) #[true,true,true,true,true,false,true,true,false,false,false,false,false,false,false,false] rfl rfl (aK HT_.out) (fun _ _ _ h => h) (Or.inl ⟨by rfl, ?_⟩) ?_ ?_
          rotate_left
          ·
           intro w'
           go_simp
           with_reducible rfl
          rotate_left
          ·
           simp only [Act.put, sp]
           rfl
          refine pure_ (i := 8) (N := some 37) (v := ?_) (a' := ?_) #[true,true,true,true,true,false,true,true,true,false,false,false,false,false,false,false] rfl rfl (aK HT_.out) (fun _ _ _ h => h) (Or.inl ⟨by rfl, ?_⟩) ?_ ?_
          rotate_left
          ·
           intro w'
           go_simp
           with_reducible rfl
          rotate_left
          ·
           simp only [Act.put, sp]
           rfl
          refine pure_ (i := 9) (N := some 38) (v := ?_) (a' := ?_) #[true,true,true,true,true,false,true,true,true,true,false,false,false,false,false,false] rfl rfl (aK HT_.out) (fun _ _ _ h => h) (Or.inl ⟨by rfl, ?_⟩) ?_ ?_
          rotate_left
          ·
           intro w'
           go_simp
           with_reducible rfl
          rotate_left
          ·
           simp only [Act.put, sp]
           rfl
          refine pure_ (i := 11) (N := some 40) (v := ?_) (a' := ?_) #[true,true,true,true,true,false,true,true,true,true,false,true,false,false,false,false] rfl rfl (aK HT_.out) (fun _ _ _ h => h) (Or.inl ⟨by rfl, ?_⟩) ?_ ?_
          rotate_left
          ·
           intro w'
           go_simp
           with_reducible rfl
          rotate_left
          ·
           simp only [Act.put, sp]
           rfl
          refine take_ (i := 5) (N := some 34) (v := ?_) (a' := ?_) #[true,true,true,true,true,true,true,true,true,true,false,true,false,false,false,false] rfl rfl (take_ofW HT_.out HW_.out (by kernel_rfl)) (fun _ _ _ h => h) (Or.inl ⟨by rfl, ?_⟩) hHeld ?_ ?_
          rotate_left
          ·
           rintro w' ⟨s0, s1, s2, s3, s4, s5, s6, s7, s8, s9, s10, s11, s12, s13, s14, s15, s16, s17, s18, s19⟩
           go_simp
           with_reducible rfl
          rotate_left
          ·
           simp only [Act.put, sp]
           rfl
          refine take_ (i := 10) (N := some 39) (v := ?_) (a' := ?_) #[true,true,true,true,true,true,true,true,true,true,true,true,false,false,false,false] rfl rfl (take_ofW HT_.out HW_.out (by kernel_rfl)) (fun _ _ _ h => h) (Or.inl ⟨by rfl, ?_⟩) hHeld ?_ ?_
          rotate_left
          ·
           rintro w' ⟨s0, s1, s2, s3, s4, s5, s6, s7, s8, s9, s10, s11, s12, s13, s14, s15, s16, s17, s18, s19⟩
           go_simp
           with_reducible rfl
          rotate_left
          ·
           simp only [Act.put, sp]
           rfl
          refine pure_ (i := 12) (N := some 41) (v := ?_) (a' := ?_) #[true,true,true,true,true,true,true,true,true,true,true,true,true,false,false,false] rfl rfl (aK HT_.out) (fun _ _ _ h => h) (Or.inl ⟨by rfl, ?_⟩) ?_ ?_
          rotate_left
          ·
           intro w'
           go_simp
           with_reducible rfl
          rotate_left
          ·
           simp only [Act.put, sp]
           rfl
          refine one_ (i := 13) (N := some 42) #[true,true,true,true,true,true,true,true,true,true,true,true,true,true,false,false] rfl rfl (one_of HT_.out (by kernel_rfl)) (by decide) (fun K hK => ?_)
          refine value_ (w1 := ?_) (v := ?_) (by rfl) rfl ?_ ?_
          rotate_left 2
          ·
           go_simp
           constructor
           ·
            rfl
           ·
            rfl
          refine hK.out _ _ ⟨(World.cell?_alloc_lt _ _ _ (World.block_lt_of_cell? _ _ ((skc HB.out hw185_0)))).trans ((skc HB.out hw185_0)), (World.cell?_alloc_lt _ _ _ (World.block_lt_of_cell? _ _ ((skc HB.out hw185_1)))).trans ((skc HB.out hw185_1)), (World.cell?_alloc_lt _ _ _ (World.block_lt_of_cell? _ _ ((skc HB.out hw185_2)))).trans ((skc HB.out hw185_2)), (World.cell?_alloc_lt _ _ _ (World.block_lt_of_cell? _ _ ((skc HB.out hw185_3)))).trans ((skc HB.out hw185_3)), (World.cell?_alloc_lt _ _ _ (World.block_lt_of_cell? _ _ ((skc HB.out hw185_4)))).trans ((skc HB.out hw185_4)), (World.cell?_alloc_lt _ _ _ (World.block_lt_of_cell? _ _ ((skc HB.out hw185_5)))).trans ((skc HB.out hw185_5)), (World.cell?_alloc_lt _ _ _ (World.block_lt_of_cell? _ _ ((skc HB.out hw185_6)))).trans ((skc HB.out hw185_6)), (World.cell?_alloc_lt _ _ _ (World.block_lt_of_cell? _ _ ((skc HB.out hw185_7)))).trans ((skc HB.out hw185_7)), (World.cell?_alloc_lt _ _ _ (World.block_lt_of_cell? _ _ ((skc HB.out hw185_8)))).trans ((skc HB.out hw185_8)), (World.cell?_alloc_lt _ _ _ (World.block_lt_of_cell? _ _ ((skc HB.out hw185_9)))).trans ((skc HB.out hw185_9)), (World.cell?_alloc_lt _ _ _ (World.block_lt_of_cell? _ _ ((skc HB.out hw186_0)))).trans ((skc HB.out hw186_0)), (World.cell?_alloc_lt _ _ _ (World.block_lt_of_cell? _ _ ((skc HB.out hw186_1)))).trans ((skc HB.out hw186_1)), (World.cell?_alloc_lt _ _ _ (World.block_lt_of_cell? _ _ ((skc HB.out hw186_2)))).trans ((skc HB.out hw186_2)), (World.cell?_alloc_lt _ _ _ (World.block_lt_of_cell? _ _ ((skc HB.out hw186_3)))).trans ((skc HB.out hw186_3)), (World.cell?_alloc_lt _ _ _ (World.block_lt_of_cell? _ _ ((skc HB.out hw186_4)))).trans ((skc HB.out hw186_4)), (World.cell?_alloc_lt _ _ _ (World.block_lt_of_cell? _ _ ((skc HB.out hw186_5)))).trans ((skc HB.out hw186_5)), (World.cell?_alloc_lt _ _ _ (World.block_lt_of_cell? _ _ ((skc HB.out hw186_6)))).trans ((skc HB.out hw186_6)), (World.cell?_alloc_lt _ _ _ (World.block_lt_of_cell? _ _ ((skc HB.out hw186_7)))).trans ((skc HB.out hw186_7)), (World.cell?_alloc_lt _ _ _ (World.block_lt_of_cell? _ _ ((skc HB.out hw186_8)))).trans ((skc HB.out hw186_8)), (World.cell?_alloc_lt _ _ _ (World.block_lt_of_cell? _ _ ((skc HB.out hw186_9)))).trans ((skc HB.out hw186_9))⟩ (fun hHeld => ?_)
          clear hK K
          refine norm_ (a' := ?_) ?_ ?_
          rotate_left
          ·
           show Act.put _ (some 42) _ = _
           simp only [Act.put, sp]
           rfl
          refine one_ (i := 14) (N := some 43) #[true,true,true,true,true,true,true,true,true,true,true,true,true,true,true,false] rfl rfl (one_of HT_.out (by kernel_rfl)) (by decide) (fun K hK => ?_)
          refine Kd.S_append_step k76 (w0 := w) w.heap.size (by rfl) (.tmp 29) (.tmp 42) 56 76 (.agg #[(.int .i64 0), (.int .i64 0), (.int .i64 0), (.int .i64 0), (.int .i64 0), (.bool false), (.int .i64 0), (.int .i64 0), (.slice none 0 0), (.int .i64 0), (.int .i64 0)]) 104 rfl Try.underlying56 info76 rfl (by decide) (by omega) (.slice Ao26 x3_1.length co26) x3_1 (⟨(J67 l0 x5_1).f0, (⟨(J67 l0 x5_1).f2.f0, (J67 l0 x5_1).f2.f1, (J67 l0 x5_1).f2.f2, (J67 l0 x5_1).f2.f3⟩ : S33), (⟨false, 0, 0, ([] : List (S70))⟩ : S36), x5_1, (-1)⟩ : S76) [.int .i64 ((J67 l0 x5_1).f0), .int .i64 ((J67 l0 x5_1).f2.f0), .int .i64 ((J67 l0 x5_1).f2.f1), .int .i64 ((J67 l0 x5_1).f2.f2), .int .i64 ((J67 l0 x5_1).f2.f3), .bool false, .int .i64 0, .int .i64 0, .slice none 0 0, .int .i64 x5_1, .int .i64 (-1)] (fun _ => True) (fun _ => False) rfl rfl ?aP (fun k_ hk_ => hk_.elim) ?aF ?aO ?aB ?aS ?aL ?_
          (case aP => exact k76_mkM _ _ _ (⟨(J67 l0 x5_1).f0, (⟨(J67 l0 x5_1).f2.f0, (J67 l0 x5_1).f2.f1, (J67 l0 x5_1).f2.f2, (J67 l0 x5_1).f2.f3⟩ : S33), (⟨false, 0, 0, ([] : List (S70))⟩ : S36), x5_1, (-1)⟩ : S76) (Kd.R_nil _ _ _ _ _))
          (case aB => exact (skB HB.out))
          (case aF => exact (fun _ _ => trivial))
          (case aO => exact (by (with_reducible repeat (first | apply Kd.S_alloc | apply Kd.S_drewN | apply Kd.S_drew)); exact Kd.S_mono HO_3.out (fun k_ hk => ⟨trivial, fun e_ => e_⟩)))
          (case aS => exact (below_size (skB HB.out)))
          (case aL => have := LMc25.out; omega)
          intro v188 w30 ho hb hg hat
          rw [← Ny187.out] at ho
          have n0_ := asd (Kd.R_over' (skR HO_4.out) (Kd.S_typed (by (with_reducible repeat (first | apply Kd.S_alloc | apply Kd.S_drewN | apply Kd.S_drew)); exact HO_3.out)) (by decide) hg)
          have n1_ := asd (hb)
          have n2_ := asd (ho)
          clear HO_4
          clear HB
          clear HO_3
          have HO_4 := n0_
          have HB := n1_
          have HO189 := n2_
          clear n0_ n1_ n2_
          clear ho hb hg hat
          refine hK.out _ _ ⟨(skc HB.out hw185_0), (skc HB.out hw185_1), (skc HB.out hw185_2), (skc HB.out hw185_3), (skc HB.out hw185_4), (skc HB.out hw185_5), (skc HB.out hw185_6), (skc HB.out hw185_7), (skc HB.out hw185_8), (skc HB.out hw185_9), (skc HB.out hw186_0), (skc HB.out hw186_1), (skc HB.out hw186_2), (skc HB.out hw186_3), (skc HB.out hw186_4), (skc HB.out hw186_5), (skc HB.out hw186_6), (skc HB.out hw186_7), (skc HB.out hw186_8), (skc HB.out hw186_9)⟩ (fun hHeld => ?_)
          clear hK K
          refine norm_ (a' := ?_) ?_ ?_
          rotate_left
          ·
           show Act.put _ (some 43) _ = _
           simp only [Act.put, sp]
           rfl
          refine pure_ (i := 15) (N := some 3) (v := ?_) (a' := ?_) #[true,true,true,true,true,true,true,true,true,true,true,true,true,true,true,true] rfl rfl (aK HT_.out) (fun _ _ _ h => h) (Or.inl ⟨by rfl, ?_⟩) ?_ ?_
          rotate_left
          ·
           intro w'
           go_simp
           with_reducible rfl
          rotate_left
          ·
           simp only [Act.put, sp]
           rfl
          refine done_ (done_of HT_.out (by kernel_rfl)) ?_
          try go_wp2
          go_roundg k1
          case measure => have := HK1.out; omega
          case rel => exact ⟨(y187), (y184), (wrap64 (x5_1 + 1)), rs, H', ⟨by have := HK1.out; omega⟩, ⟨by (with_reducible repeat (first | apply Kd.S_alloc | apply Kd.S_drewN | apply Kd.S_drew)); exact HO189.out⟩, ⟨skR HO_4.out⟩, ⟨skB HB.out⟩⟩
         ·
          rw [if_neg c25] at H
          exact absurd H (by simp)
        ·
         rw [if_neg c23] at H
         exact absurd H (by simp)
       ·
        rw [if_neg c22] at H
        exact absurd H (by simp)
     ·
      rw [if_neg c6] at H
      exact absurd H (by simp)
    ·
     rw [if_neg c5] at H
     have c5b0 : decide (x5_1 < (l0.length : Int)) = false := decide_eq_false c5
     clear c5
     obtain rfl := Option.some.inj H
     go_wp2
     go_ret
     exact ⟨_, re, by (with_reducible repeat (first | apply Kd.S_alloc | apply Kd.S_drewN | apply Kd.S_drew)); exact HO_3.out, skB HB.out⟩
 ·
  rw [if_neg c2] at H
  exact absurd H (by simp)
end Go.Proofs.Ytagdkmcgepidoaa.P
/- F23 -/
namespace Go.Proofs.Ytagdkmcgepidoaa.P
open Go.RowKit Go.Proofs.YtagdkmcgepidoaaW.PrintWords Go.Proofs.YtagdkmcgepidoaaW.PrintLast Go.Proofs.YtagdkmcgepidoaaW.PrintMore
attribute [local go_sem] max2_int min2_int max_two min_two max_three min_three max_four min_four   -- for this text's walks alone
set_option linter.unusedVariables false
set_option linter.unusedSimpArgs false
def larchref05_Calls.f (k : Nat) (l0 : List (S67)) : Option ((List (S76)) × Int) := (larchref05_Check.f k l0).bind fun t190 => (if t190 = 0 then ((larchref05_calls.f k l0).bind fun t191 => (some (t191, 0))) else (some (([] : List (S76)), t190)))
set_option maxHeartbeats 8000000 in
set_option maxRecDepth 100000 in
theorem larchref05_Calls.calls (k : Nat) (A0 : Option Addr) (c0 : Nat) (l0 : List (S67)) (r1 : List (S76)) (r2 : Int) (w : World) (hr0 : Kd.C k67 w A0 l0.length l0) (hc0 : l0.length ≤ c0) (h : larchref05_Calls.f k l0 = some (r1, r2)) :
  Calls Try.prog 38 #[.slice A0 l0.length c0] w fun e w' => ∃ v0_ : Value, e = .returned (.tuple #[v0_, .int .i64 r2]) ∧ Kd.S k76 76 w' w.heap.size (fun _ => True) v0_ r1 ∧ Below w.heap.size w w' := by
 have HR0 := asd hr0
 have HC0 := asd hc0
 clear hr0 hc0
 have HB := asd (Below.refl w.heap.size w)
 have H : ((larchref05_Check.f k l0).bind fun t190 => (if t190 = 0 then ((larchref05_calls.f k l0).bind fun t191 => (some (t191, 0))) else (some (([] : List (S76)), t190)))) = some (r1, r2) := h
 clear h
 replace H := Option.bind_eq_some_iff.mp H
 obtain ⟨t190, A20, H⟩ := H
 replace H : (if t190 = 0 then ((larchref05_calls.f k l0).bind fun t191 => (some (t191, 0))) else (some (([] : List (S76)), t190))) = some (r1, r2) := H
 have A2 := asd A20
 clear A20
 by_cases c3 : t190 = 0
 ·
  rw [if_pos c3] at H
  have c3b0 : (t190 == 0) = true := beq_iff_eq.mpr c3
  have c3b1 : (t190 != 0) = false := bne_eq_false_iff_eq.mpr c3
  clear c3
  replace H := Option.bind_eq_some_iff.mp H
  obtain ⟨t191, A40, H⟩ := H
  replace H : (some (t191, 0)) = some (r1, r2) := H
  have A4 := asd A40
  clear A40
  simp only [Option.some.injEq, Prod.mk.injEq] at H
  obtain ⟨rfl, rfl⟩ := H
  go_enter Try.func38, Try.ntmps38
  go_wp2_with (first | ((with_reducible refine gate_callee (f := 37) rfl ?_); refine goesL_ (some 6) rfl rfl Try.func37 (by kernel_rfl) rfl #[.slice A0 l0.length c0] rfl ags ?_; (with_reducible refine (larchref05_Check.calls k _ _ l0 t190 _ ?side1 ?side2 A2.out).mono ?_); (case side1 => exact skC HR0.out); (case side2 => exact HC0.out); rintro e w5 ⟨rfl, hb⟩; refine ⟨_, rfl, ?_⟩; have n0_ := asd (below_step (skB HB.out) hb); clear HB; have HB := n0_; clear n0_; (try clear hb); (try clear hb2); (try clear hk); (try clear hi)) | ((with_reducible refine gate_callee (f := 64) rfl ?_); refine goesL_ (some 11) rfl rfl Try.func64 (by kernel_rfl) rfl #[.slice A0 l0.length c0] rfl ags ?_; (with_reducible refine (larchref05_calls.calls k _ _ l0 t191 _ ?side1 ?side2 A4.out).mono ?_); (case side1 => exact skC (Kd.C_below HR0.out HB.out)); (case side2 => exact HC0.out); rintro e w6 ⟨v192, rfl, ho0, hb⟩; refine ⟨_, rfl, ?_⟩; have n0_ := asd (Kd.S_lower ho0 (below_size (skB HB.out))); have n1_ := asd (below_step (skB HB.out) hb); clear HB; have HO193 := n0_; have HB := n1_; clear n0_ n1_; (try clear hb); (try clear hb2); (try clear hk); (try clear hi); (try clear ho0)))
  go_ret2
  exact ⟨_, re, by (with_reducible repeat (first | apply Kd.S_alloc | apply Kd.S_drewN | apply Kd.S_drew)); exact HO193.out, skB HB.out⟩
 ·
  rw [if_neg c3] at H
  have c3b0 : (t190 == 0) = false := beq_eq_false_iff_ne.mpr c3
  have c3b1 : (t190 != 0) = true := bne_iff_ne.mpr c3
  simp only [Option.some.injEq, Prod.mk.injEq] at H
  obtain ⟨rfl, rfl⟩ := H
  go_enter Try.func38, Try.ntmps38
  go_wp2_with (first | ((with_reducible refine gate_callee (f := 37) rfl ?_); refine goesL_ (some 6) rfl rfl Try.func37 (by kernel_rfl) rfl #[.slice A0 l0.length c0] rfl ags ?_; (with_reducible refine (larchref05_Check.calls k _ _ l0 t190 _ ?side1 ?side2 A2.out).mono ?_); (case side1 => exact skC HR0.out); (case side2 => exact HC0.out); rintro e w7 ⟨rfl, hb⟩; refine ⟨_, rfl, ?_⟩; have n0_ := asd (below_step (skB HB.out) hb); clear HB; have HB := n0_; clear n0_; (try clear hb); (try clear hb2); (try clear hk); (try clear hi)))
  go_ret2
  exact ⟨_, re, by first | exact Kd.S_nil _ _ _ _ _ | exact Kd.N_nil _ _ _ _ _ | exact Kd.V_nil _ _ _ _ _ | exact Kd.Q_nil _ _ _ _ _ | exact Kd.R_nil _ _ _ _ _, skB HB.out⟩
end Go.Proofs.Ytagdkmcgepidoaa.P
/- F52 -/
namespace Go.Proofs.Ytagdkmcgepidoaa.P
open Go.RowKit Go.Proofs.YtagdkmcgepidoaaW.PrintWords Go.Proofs.YtagdkmcgepidoaaW.PrintLast Go.Proofs.YtagdkmcgepidoaaW.PrintMore
attribute [local go_sem] max2_int min2_int max_two min_two max_three min_three max_four min_four   -- for this text's walks alone
set_option linter.unusedVariables false
set_option linter.unusedSimpArgs false
attribute [local go_sem high] eqA70
end Go.Proofs.Ytagdkmcgepidoaa.P
/- F53 -/
namespace Go.Proofs.Ytagdkmcgepidoaa.P
open Go.RowKit Go.Proofs.YtagdkmcgepidoaaW.PrintWords Go.Proofs.YtagdkmcgepidoaaW.PrintLast Go.Proofs.YtagdkmcgepidoaaW.PrintMore
attribute [local go_sem] max2_int min2_int max_two min_two max_three min_three max_four min_four   -- for this text's walks alone
set_option linter.unusedVariables false
set_option linter.unusedSimpArgs false
end Go.Proofs.Ytagdkmcgepidoaa.P
/- F9 -/
namespace Go.Proofs.Ytagdkmcgepidoaa.P
open Go.RowKit Go.Proofs.YtagdkmcgepidoaaW.PrintWords Go.Proofs.YtagdkmcgepidoaaW.PrintLast Go.Proofs.YtagdkmcgepidoaaW.PrintMore
attribute [local go_sem] max2_int min2_int max_two min_two max_three min_three max_four min_four   -- for this text's walks alone
set_option linter.unusedVariables false
set_option linter.unusedSimpArgs false
def event_ahead.f (a0_0 : Int) (a0_1 : Int) (a0_2 : Int) (a0_3 : Int) (a0_4 : Int) (a0_5 : Bool) (a0_6 : Int) (a0_7 : Int) (l0_8 : List (S70)) (a0_9 : Int) (a0_10 : Int) (a1_0 : Int) (a1_1 : Int) (a1_2 : Int) (a1_3 : Int) (a1_4 : Int) (a1_5 : Bool) (a1_6 : Int) (a1_7 : Int) (l1_8 : List (S70)) (a1_9 : Int) (a1_10 : Int) : Option (Bool) := if a0_10 ≥ 0 then (some (decide (a0_10 < a1_9))) else (some false)
set_option maxHeartbeats 8000000 in
set_option maxRecDepth 100000 in
theorem event_ahead.calls (a0_0 : Int) (a0_1 : Int) (a0_2 : Int) (a0_3 : Int) (a0_4 : Int) (a0_5 : Bool) (a0_6 : Int) (a0_7 : Int) (A0_8 : Option Addr) (c0_8 : Nat) (l0_8 : List (S70)) (a0_9 : Int) (a0_10 : Int) (a1_0 : Int) (a1_1 : Int) (a1_2 : Int) (a1_3 : Int) (a1_4 : Int) (a1_5 : Bool) (a1_6 : Int) (a1_7 : Int) (A1_8 : Option Addr) (c1_8 : Nat) (l1_8 : List (S70)) (a1_9 : Int) (a1_10 : Int) (r : Bool) (w : World) (hr0_8 : Kd.C k70 w A0_8 l0_8.length l0_8) (hc0_8 : l0_8.length ≤ c0_8) (hr1_8 : Kd.C k70 w A1_8 l1_8.length l1_8) (hc1_8 : l1_8.length ≤ c1_8) (h : event_ahead.f a0_0 a0_1 a0_2 a0_3 a0_4 a0_5 a0_6 a0_7 l0_8 a0_9 a0_10 a1_0 a1_1 a1_2 a1_3 a1_4 a1_5 a1_6 a1_7 l1_8 a1_9 a1_10 = some r) :
  Calls Try.prog 47 #[.agg #[.int .i64 a0_0, .int .i64 a0_1, .int .i64 a0_2, .int .i64 a0_3, .int .i64 a0_4, .bool a0_5, .int .i64 a0_6, .int .i64 a0_7, .slice A0_8 l0_8.length c0_8, .int .i64 a0_9, .int .i64 a0_10], .agg #[.int .i64 a1_0, .int .i64 a1_1, .int .i64 a1_2, .int .i64 a1_3, .int .i64 a1_4, .bool a1_5, .int .i64 a1_6, .int .i64 a1_7, .slice A1_8 l1_8.length c1_8, .int .i64 a1_9, .int .i64 a1_10]] w fun e w' => e = .returned (.bool r) ∧ Below w.heap.size w w' := by
 have hu38 := Try.underlying38
 have HR0_8 := asd hr0_8
 have HC0_8 := asd hc0_8
 clear hr0_8 hc0_8
 have HR1_8 := asd hr1_8
 have HC1_8 := asd hc1_8
 clear hr1_8 hc1_8
 have HB := asd (Below.refl w.heap.size w)
 have H : (if a0_10 ≥ 0 then (some (decide (a0_10 < a1_9))) else (some false)) = some r := h
 clear h
 by_cases c3 : a0_10 ≥ 0
 ·
  rw [if_pos c3] at H
  have c3b0 : decide (0 ≤ a0_10) = true := decide_eq_true c3
  clear c3
  obtain rfl := Option.some.inj H
  go_enter Try.func47, Try.ntmps47
  go_wp2_with (first | ((with_reducible refine gate_dst (N := 2) rfl ?_); refine box_event ?hg (N := 2) ?hd (cs := #[.int .i64 a0_0, .int .i64 a0_1, .int .i64 a0_2, .int .i64 a0_3, .int .i64 a0_4, .bool a0_5, .int .i64 a0_6, .int .i64 a0_7, .slice A0_8 l0_8.length c0_8, .int .i64 a0_9, .int .i64 a0_10]) (t := 38) ?hr ?_; (case hd => rfl); (case hg => rfl); (case hr => first | (go_simp; done) | (go_simp; rfl)); intro gb111 hg w4 hbox hb; have n0_ := asd (below_step (skB HB.out) hb); have n1_ := asd (hbox); have n2_ := asd ((by rw [hg]; exact (below_size (skB HB.out)) : w.heap.size ≤ gb111)); have n3_ := asd ((by rw [hg]; exact (below_size (skB HB.out)) : w.heap.size ≤ gb111)); clear HB; have HB := n0_; have BK111 := n1_; have GW111 := n2_; have GE111 := n3_; clear n0_ n1_ n2_ n3_; clear hb hbox hg) | ((with_reducible refine gate_dst (N := 3) rfl ?_); refine box_event ?hg (N := 3) ?hd (cs := #[.int .i64 a1_0, .int .i64 a1_1, .int .i64 a1_2, .int .i64 a1_3, .int .i64 a1_4, .bool a1_5, .int .i64 a1_6, .int .i64 a1_7, .slice A1_8 l1_8.length c1_8, .int .i64 a1_9, .int .i64 a1_10]) (t := 38) ?hr ?_; (case hd => rfl); (case hg => rfl); (case hr => first | (go_simp; done) | (go_simp; rfl)); intro gb112 hg w5 hbox hb; have n0_ := asd (blk_below (g := gb111) (o := .cells #[.int .i64 a0_0, .int .i64 a0_1, .int .i64 a0_2, .int .i64 a0_3, .int .i64 a0_4, .bool a0_5, .int .i64 a0_6, .int .i64 a0_7, .slice A0_8 l0_8.length c0_8, .int .i64 a0_9, .int .i64 a0_10] 38 (0, 0)) (skK BK111.out) hb); have n1_ := asd (below_step (skG HB.out GE111.out GE111.out) hb); have n2_ := asd (hbox); have n3_ := asd ((by rw [hg]; exact (below_size (skG HB.out GE111.out GE111.out)) : w.heap.size ≤ gb112)); have n4_ := asd ((by rw [hg]; exact (below_size (skG HB.out GE111.out GE111.out)) : w.heap.size ≤ gb112)); have n5_ := asd ((by rw [hg]; exact Nat.ne_of_lt (blk_lt (g := gb111) (o := .cells #[.int .i64 a0_0, .int .i64 a0_1, .int .i64 a0_2, .int .i64 a0_3, .int .i64 a0_4, .bool a0_5, .int .i64 a0_6, .int .i64 a0_7, .slice A0_8 l0_8.length c0_8, .int .i64 a0_9, .int .i64 a0_10] 38 (0, 0)) (skK BK111.out)) : gb111 ≠ gb112)); have n6_ := asd ((by rw [hg]; exact Nat.ne_of_gt (blk_lt (g := gb111) (o := .cells #[.int .i64 a0_0, .int .i64 a0_1, .int .i64 a0_2, .int .i64 a0_3, .int .i64 a0_4, .bool a0_5, .int .i64 a0_6, .int .i64 a0_7, .slice A0_8 l0_8.length c0_8, .int .i64 a0_9, .int .i64 a0_10] 38 (0, 0)) (skK BK111.out)) : gb112 ≠ gb111)); clear BK111; clear HB; have BK111 := n0_; have HB := n1_; have BK112 := n2_; have GW112 := n3_; have GE112 := n4_; have NB111_112 := n5_; have NB112_111 := n6_; clear n0_ n1_ n2_ n3_ n4_ n5_ n6_; clear hb hbox hg; have hnb6 := NB111_112.out; have hnc6 := NB112_111.out; have hcz7_0 : w5.cell? ⟨gb111, 0, none⟩ = some (.int .i64 a0_0) := (blk_cell BK111.out 0).trans rfl; have hcz7_1 : w5.cell? ⟨gb111, 1, none⟩ = some (.int .i64 a0_1) := (blk_cell BK111.out 1).trans rfl; have hcz7_2 : w5.cell? ⟨gb111, 2, none⟩ = some (.int .i64 a0_2) := (blk_cell BK111.out 2).trans rfl; have hcz7_3 : w5.cell? ⟨gb111, 3, none⟩ = some (.int .i64 a0_3) := (blk_cell BK111.out 3).trans rfl; have hcz7_4 : w5.cell? ⟨gb111, 4, none⟩ = some (.int .i64 a0_4) := (blk_cell BK111.out 4).trans rfl; have hcz7_5 : w5.cell? ⟨gb111, 5, none⟩ = some (.bool a0_5) := (blk_cell BK111.out 5).trans rfl; have hcz7_6 : w5.cell? ⟨gb111, 6, none⟩ = some (.int .i64 a0_6) := (blk_cell BK111.out 6).trans rfl; have hcz7_7 : w5.cell? ⟨gb111, 7, none⟩ = some (.int .i64 a0_7) := (blk_cell BK111.out 7).trans rfl; have hcz7_8 : w5.cell? ⟨gb111, 8, none⟩ = some (.slice A0_8 l0_8.length c0_8) := (blk_cell BK111.out 8).trans rfl; have hcz7_9 : w5.cell? ⟨gb111, 9, none⟩ = some (.int .i64 a0_9) := (blk_cell BK111.out 9).trans rfl; have hcz7_10 : w5.cell? ⟨gb111, 10, none⟩ = some (.int .i64 a0_10) := (blk_cell BK111.out 10).trans rfl; have hfz7_0 := blk_frozen BK111.out 0; have hfz7_1 := blk_frozen BK111.out 1; have hfz7_2 := blk_frozen BK111.out 2; have hfz7_3 := blk_frozen BK111.out 3; have hfz7_4 := blk_frozen BK111.out 4; have hfz7_5 := blk_frozen BK111.out 5; have hfz7_6 := blk_frozen BK111.out 6; have hfz7_7 := blk_frozen BK111.out 7; have hfz7_8 := blk_frozen BK111.out 8; have hfz7_9 := blk_frozen BK111.out 9; have hfz7_10 := blk_frozen BK111.out 10; have hcz8_0 : w5.cell? ⟨gb112, 0, none⟩ = some (.int .i64 a1_0) := (blk_cell BK112.out 0).trans rfl; have hcz8_1 : w5.cell? ⟨gb112, 1, none⟩ = some (.int .i64 a1_1) := (blk_cell BK112.out 1).trans rfl; have hcz8_2 : w5.cell? ⟨gb112, 2, none⟩ = some (.int .i64 a1_2) := (blk_cell BK112.out 2).trans rfl; have hcz8_3 : w5.cell? ⟨gb112, 3, none⟩ = some (.int .i64 a1_3) := (blk_cell BK112.out 3).trans rfl; have hcz8_4 : w5.cell? ⟨gb112, 4, none⟩ = some (.int .i64 a1_4) := (blk_cell BK112.out 4).trans rfl; have hcz8_5 : w5.cell? ⟨gb112, 5, none⟩ = some (.bool a1_5) := (blk_cell BK112.out 5).trans rfl; have hcz8_6 : w5.cell? ⟨gb112, 6, none⟩ = some (.int .i64 a1_6) := (blk_cell BK112.out 6).trans rfl; have hcz8_7 : w5.cell? ⟨gb112, 7, none⟩ = some (.int .i64 a1_7) := (blk_cell BK112.out 7).trans rfl; have hcz8_8 : w5.cell? ⟨gb112, 8, none⟩ = some (.slice A1_8 l1_8.length c1_8) := (blk_cell BK112.out 8).trans rfl; have hcz8_9 : w5.cell? ⟨gb112, 9, none⟩ = some (.int .i64 a1_9) := (blk_cell BK112.out 9).trans rfl; have hcz8_10 : w5.cell? ⟨gb112, 10, none⟩ = some (.int .i64 a1_10) := (blk_cell BK112.out 10).trans rfl; have hfz8_0 := blk_frozen BK112.out 0; have hfz8_1 := blk_frozen BK112.out 1; have hfz8_2 := blk_frozen BK112.out 2; have hfz8_3 := blk_frozen BK112.out 3; have hfz8_4 := blk_frozen BK112.out 4; have hfz8_5 := blk_frozen BK112.out 5; have hfz8_6 := blk_frozen BK112.out 6; have hfz8_7 := blk_frozen BK112.out 7; have hfz8_8 := blk_frozen BK112.out 8; have hfz8_9 := blk_frozen BK112.out 9; have hfz8_10 := blk_frozen BK112.out 10))
  go_ret
  exact ⟨re, skG HB.out GE111.out GE112.out⟩
 ·
  rw [if_neg c3] at H
  have c3b0 : decide (0 ≤ a0_10) = false := decide_eq_false c3
  clear c3
  obtain rfl := Option.some.inj H
  go_enter Try.func47, Try.ntmps47
  go_wp2_with (first | ((with_reducible refine gate_dst (N := 2) rfl ?_); refine box_event ?hg (N := 2) ?hd (cs := #[.int .i64 a0_0, .int .i64 a0_1, .int .i64 a0_2, .int .i64 a0_3, .int .i64 a0_4, .bool a0_5, .int .i64 a0_6, .int .i64 a0_7, .slice A0_8 l0_8.length c0_8, .int .i64 a0_9, .int .i64 a0_10]) (t := 38) ?hr ?_; (case hd => rfl); (case hg => rfl); (case hr => first | (go_simp; done) | (go_simp; rfl)); intro gb111 hg w9 hbox hb; have n0_ := asd (below_step (skB HB.out) hb); have n1_ := asd (hbox); have n2_ := asd ((by rw [hg]; exact (below_size (skB HB.out)) : w.heap.size ≤ gb111)); have n3_ := asd ((by rw [hg]; exact (below_size (skB HB.out)) : w.heap.size ≤ gb111)); clear HB; have HB := n0_; have BK111 := n1_; have GW111 := n2_; have GE111 := n3_; clear n0_ n1_ n2_ n3_; clear hb hbox hg) | ((with_reducible refine gate_dst (N := 3) rfl ?_); refine box_event ?hg (N := 3) ?hd (cs := #[.int .i64 a1_0, .int .i64 a1_1, .int .i64 a1_2, .int .i64 a1_3, .int .i64 a1_4, .bool a1_5, .int .i64 a1_6, .int .i64 a1_7, .slice A1_8 l1_8.length c1_8, .int .i64 a1_9, .int .i64 a1_10]) (t := 38) ?hr ?_; (case hd => rfl); (case hg => rfl); (case hr => first | (go_simp; done) | (go_simp; rfl)); intro gb112 hg w10 hbox hb; have n0_ := asd (blk_below (g := gb111) (o := .cells #[.int .i64 a0_0, .int .i64 a0_1, .int .i64 a0_2, .int .i64 a0_3, .int .i64 a0_4, .bool a0_5, .int .i64 a0_6, .int .i64 a0_7, .slice A0_8 l0_8.length c0_8, .int .i64 a0_9, .int .i64 a0_10] 38 (0, 0)) (skK BK111.out) hb); have n1_ := asd (below_step (skG HB.out GE111.out GE111.out) hb); have n2_ := asd (hbox); have n3_ := asd ((by rw [hg]; exact (below_size (skG HB.out GE111.out GE111.out)) : w.heap.size ≤ gb112)); have n4_ := asd ((by rw [hg]; exact (below_size (skG HB.out GE111.out GE111.out)) : w.heap.size ≤ gb112)); have n5_ := asd ((by rw [hg]; exact Nat.ne_of_lt (blk_lt (g := gb111) (o := .cells #[.int .i64 a0_0, .int .i64 a0_1, .int .i64 a0_2, .int .i64 a0_3, .int .i64 a0_4, .bool a0_5, .int .i64 a0_6, .int .i64 a0_7, .slice A0_8 l0_8.length c0_8, .int .i64 a0_9, .int .i64 a0_10] 38 (0, 0)) (skK BK111.out)) : gb111 ≠ gb112)); have n6_ := asd ((by rw [hg]; exact Nat.ne_of_gt (blk_lt (g := gb111) (o := .cells #[.int .i64 a0_0, .int .i64 a0_1, .int .i64 a0_2, .int .i64 a0_3, .int .i64 a0_4, .bool a0_5, .int .i64 a0_6, .int .i64 a0_7, .slice A0_8 l0_8.length c0_8, .int .i64 a0_9, .int .i64 a0_10] 38 (0, 0)) (skK BK111.out)) : gb112 ≠ gb111)); clear BK111; clear HB; have BK111 := n0_; have HB := n1_; have BK112 := n2_; have GW112 := n3_; have GE112 := n4_; have NB111_112 := n5_; have NB112_111 := n6_; clear n0_ n1_ n2_ n3_ n4_ n5_ n6_; clear hb hbox hg; have hnb11 := NB111_112.out; have hnc11 := NB112_111.out; have hcz12_0 : w10.cell? ⟨gb111, 0, none⟩ = some (.int .i64 a0_0) := (blk_cell BK111.out 0).trans rfl; have hcz12_1 : w10.cell? ⟨gb111, 1, none⟩ = some (.int .i64 a0_1) := (blk_cell BK111.out 1).trans rfl; have hcz12_2 : w10.cell? ⟨gb111, 2, none⟩ = some (.int .i64 a0_2) := (blk_cell BK111.out 2).trans rfl; have hcz12_3 : w10.cell? ⟨gb111, 3, none⟩ = some (.int .i64 a0_3) := (blk_cell BK111.out 3).trans rfl; have hcz12_4 : w10.cell? ⟨gb111, 4, none⟩ = some (.int .i64 a0_4) := (blk_cell BK111.out 4).trans rfl; have hcz12_5 : w10.cell? ⟨gb111, 5, none⟩ = some (.bool a0_5) := (blk_cell BK111.out 5).trans rfl; have hcz12_6 : w10.cell? ⟨gb111, 6, none⟩ = some (.int .i64 a0_6) := (blk_cell BK111.out 6).trans rfl; have hcz12_7 : w10.cell? ⟨gb111, 7, none⟩ = some (.int .i64 a0_7) := (blk_cell BK111.out 7).trans rfl; have hcz12_8 : w10.cell? ⟨gb111, 8, none⟩ = some (.slice A0_8 l0_8.length c0_8) := (blk_cell BK111.out 8).trans rfl; have hcz12_9 : w10.cell? ⟨gb111, 9, none⟩ = some (.int .i64 a0_9) := (blk_cell BK111.out 9).trans rfl; have hcz12_10 : w10.cell? ⟨gb111, 10, none⟩ = some (.int .i64 a0_10) := (blk_cell BK111.out 10).trans rfl; have hfz12_0 := blk_frozen BK111.out 0; have hfz12_1 := blk_frozen BK111.out 1; have hfz12_2 := blk_frozen BK111.out 2; have hfz12_3 := blk_frozen BK111.out 3; have hfz12_4 := blk_frozen BK111.out 4; have hfz12_5 := blk_frozen BK111.out 5; have hfz12_6 := blk_frozen BK111.out 6; have hfz12_7 := blk_frozen BK111.out 7; have hfz12_8 := blk_frozen BK111.out 8; have hfz12_9 := blk_frozen BK111.out 9; have hfz12_10 := blk_frozen BK111.out 10))
  go_ret
  exact ⟨re, skG HB.out GE111.out GE112.out⟩
end Go.Proofs.Ytagdkmcgepidoaa.P
/- F14 -/
namespace Go.Proofs.Ytagdkmcgepidoaa.P
open Go.RowKit Go.Proofs.YtagdkmcgepidoaaW.PrintWords Go.Proofs.YtagdkmcgepidoaaW.PrintLast Go.Proofs.YtagdkmcgepidoaaW.PrintMore
attribute [local go_sem] max2_int min2_int max_two min_two max_three min_three max_four min_four   -- for this text's walks alone
set_option linter.unusedVariables false
set_option linter.unusedSimpArgs false
def larchlaw05_sample.f  : Option ((List (S67))) := some (([(⟨0, false, (⟨1, 5, 0, 0⟩ : S33), (⟨false, 0, 0, ([] : List (S70))⟩ : S36)⟩ : S67), (⟨1, false, (⟨2, 5, 7, 0⟩ : S33), (⟨false, 0, 0, ([] : List (S70))⟩ : S36)⟩ : S67), (⟨1, true, (⟨2, 5, 7, 0⟩ : S33), (⟨false, 0, 0, ([] : List (S70))⟩ : S36)⟩ : S67), (⟨0, true, (⟨1, 5, 0, 0⟩ : S33), (⟨true, 0, 7, ([] : List (S70))⟩ : S36)⟩ : S67)] : List (S67)))
set_option maxHeartbeats 8000000 in
set_option maxRecDepth 100000 in
theorem larchlaw05_sample.calls  (r : List (S67)) (w : World) (h : larchlaw05_sample.f  = some r) :
  Calls Try.prog 45 #[] w fun e w' => ∃ v0_ : Value, e = .returned (v0_) ∧ Kd.S k67 67 w' w.heap.size (fun _ => True) v0_ r ∧ Below w.heap.size w w' := by
 have hu33 := Try.underlying33
 have hu67 := Try.underlying67
 have hu36 := Try.underlying36
 have HB := asd (Below.refl w.heap.size w)
 have H : (some (([(⟨0, false, (⟨1, 5, 0, 0⟩ : S33), (⟨false, 0, 0, ([] : List (S70))⟩ : S36)⟩ : S67), (⟨1, false, (⟨2, 5, 7, 0⟩ : S33), (⟨false, 0, 0, ([] : List (S70))⟩ : S36)⟩ : S67), (⟨1, true, (⟨2, 5, 7, 0⟩ : S33), (⟨false, 0, 0, ([] : List (S70))⟩ : S36)⟩ : S67), (⟨0, true, (⟨1, 5, 0, 0⟩ : S33), (⟨true, 0, 7, ([] : List (S70))⟩ : S36)⟩ : S67)] : List (S67)))) = some r := h
 clear h
 obtain ⟨y122, hy122⟩ : ∃ y_ : List (S67), y_ = (([(⟨0, false, (⟨1, 5, 0, 0⟩ : S33), (⟨false, 0, 0, ([] : List (S70))⟩ : S36)⟩ : S67), (⟨1, false, (⟨2, 5, 7, 0⟩ : S33), (⟨false, 0, 0, ([] : List (S70))⟩ : S36)⟩ : S67), (⟨1, true, (⟨2, 5, 7, 0⟩ : S33), (⟨false, 0, 0, ([] : List (S70))⟩ : S36)⟩ : S67), (⟨0, true, (⟨1, 5, 0, 0⟩ : S33), (⟨true, 0, 7, ([] : List (S70))⟩ : S36)⟩ : S67)] : List (S67))) := ⟨_, rfl⟩
 replace H : (some y122) = some r := by first | (rw [hy122]; with_reducible exact H) | (have H2_ := (Option.bind_some _ _).symm.trans H; rw [hy122]; with_reducible exact H2_) | (have H2_ := (Option.bind_some _ _).symm.trans H; with_reducible exact H2_) | with_reducible exact H | (rw [hy122]; exact H) | exact H
 have Ny122 := asd hy122
 clear hy122
 obtain rfl := Option.some.inj H
 go_enter Try.func45, Try.ntmps45
 go_wp2_with (first | ((with_reducible refine gate_dst (N := 1) rfl ?_); refine box_event ?hg (N := 1) ?hd (cs := #[.int .i64 0, .int .i64 0, .int .i64 0, .int .i64 0]) (t := 33) ?hr ?_; (case hd => rfl); (case hg => rfl); (case hr => first | (go_simp; done) | (go_simp; rfl)); intro gb120 hg w1 hbox hb; have n0_ := asd (below_step (skB HB.out) hb); have n1_ := asd (hbox); have n2_ := asd ((by rw [hg]; exact (below_size (skB HB.out)) : w.heap.size ≤ gb120)); have n3_ := asd ((by rw [hg]; exact (below_size (skB HB.out)) : w.heap.size ≤ gb120)); clear HB; have HB := n0_; have BK120 := n1_; have GW120 := n2_; have GE120 := n3_; clear n0_ n1_ n2_ n3_; clear hb hbox hg) | ((with_reducible refine gate_dst (N := 2) rfl ?_); refine box_event ?hg (N := 2) ?hd (cs := #[.int .i64 0, .int .i64 0, .int .i64 0, .int .i64 0]) (t := 33) ?hr ?_; (case hd => rfl); (case hg => rfl); (case hr => first | (go_simp; done) | (go_simp; rfl)); intro gb121 hg w2 hbox hb; have n0_ := asd (blk_below (g := gb120) (o := .cells #[.int .i64 0, .int .i64 0, .int .i64 0, .int .i64 0] 33 (0, 0)) (skK BK120.out) hb); have n1_ := asd (below_step (skG HB.out GE120.out GE120.out) hb); have n2_ := asd (hbox); have n3_ := asd ((by rw [hg]; exact (below_size (skG HB.out GE120.out GE120.out)) : w.heap.size ≤ gb121)); have n4_ := asd ((by rw [hg]; exact (below_size (skG HB.out GE120.out GE120.out)) : w.heap.size ≤ gb121)); have n5_ := asd ((by rw [hg]; exact Nat.ne_of_lt (blk_lt (g := gb120) (o := .cells #[.int .i64 0, .int .i64 0, .int .i64 0, .int .i64 0] 33 (0, 0)) (skK BK120.out)) : gb120 ≠ gb121)); have n6_ := asd ((by rw [hg]; exact Nat.ne_of_gt (blk_lt (g := gb120) (o := .cells #[.int .i64 0, .int .i64 0, .int .i64 0, .int .i64 0] 33 (0, 0)) (skK BK120.out)) : gb121 ≠ gb120)); clear BK120; clear HB; have BK120 := n0_; have HB := n1_; have BK121 := n2_; have GW121 := n3_; have GE121 := n4_; have NB120_121 := n5_; have NB121_120 := n6_; clear n0_ n1_ n2_ n3_ n4_ n5_ n6_; clear hb hbox hg; have hnb3 := NB120_121.out; have hnc3 := NB121_120.out; obtain ⟨hcz4_0, hcz4_1, hcz4_2, hcz4_3, hfz4_0, hfz4_1, hfz4_2, hfz4_3⟩ := bk4 BK120.out; obtain ⟨hcz5_0, hcz5_1, hcz5_2, hcz5_3, hfz5_0, hfz5_1, hfz5_2, hfz5_3⟩ := bk4 BK121.out) | ((with_reducible refine gate_dst (N := 14) rfl ?_); refine Kd.S_lit k67 _ 67 ?hg (N := 14) ?hd (xs := ([(⟨0, false, (⟨1, 5, 0, 0⟩ : S33), (⟨false, 0, 0, ([] : List (S70))⟩ : S36)⟩ : S67), (⟨1, false, (⟨2, 5, 7, 0⟩ : S33), (⟨false, 0, 0, ([] : List (S70))⟩ : S36)⟩ : S67), (⟨1, true, (⟨2, 5, 7, 0⟩ : S33), (⟨false, 0, 0, ([] : List (S70))⟩ : S36)⟩ : S67), (⟨0, true, (⟨1, 5, 0, 0⟩ : S33), (⟨true, 0, 7, ([] : List (S70))⟩ : S36)⟩ : S67)] : List (S67))) (inner := [.int .i64 0, .bool false, .int .i64 1, .int .i64 5, .int .i64 0, .int .i64 0, .bool false, .int .i64 0, .int .i64 0, .slice none 0 0, .int .i64 1, .bool false, .int .i64 2, .int .i64 5, .int .i64 7, .int .i64 0, .bool false, .int .i64 0, .int .i64 0, .slice none 0 0, .int .i64 1, .bool true, .int .i64 2, .int .i64 5, .int .i64 7, .int .i64 0, .bool false, .int .i64 0, .int .i64 0, .slice none 0 0, .int .i64 0, .bool true, .int .i64 1, .int .i64 5, .int .i64 0, .int .i64 0, .bool true, .int .i64 0, .int .i64 7, .slice none 0 0]) (ok := fun _ => True) (okp := fun _ => True) ?hr ?hp (fun _ hk => hk) trivial (Below.refl _ _) (Nat.le_refl _) (by simp) ?_; (case hd => rfl); (case hg => rfl); (case hr => first | (go_simp; done) | (go_simp; rfl)); (case hp => exact (Reps.c10 (show Kd.M k67 _ _ _ (⟨0, false, (⟨1, 5, 0, 0⟩ : S33), (⟨false, 0, 0, ([] : List (S70))⟩ : S36)⟩ : S67) [.int .i64 0, .bool false, .int .i64 1, .int .i64 5, .int .i64 0, .int .i64 0, .bool false, .int .i64 0, .int .i64 0, .slice none 0 0] from (k67_mkM _ _ _ (⟨0, false, (⟨1, 5, 0, 0⟩ : S33), (⟨false, 0, 0, ([] : List (S70))⟩ : S36)⟩ : S67) (Kd.R_nil _ _ _ _ _))) (Reps.c10 (show Kd.M k67 _ _ _ (⟨1, false, (⟨2, 5, 7, 0⟩ : S33), (⟨false, 0, 0, ([] : List (S70))⟩ : S36)⟩ : S67) [.int .i64 1, .bool false, .int .i64 2, .int .i64 5, .int .i64 7, .int .i64 0, .bool false, .int .i64 0, .int .i64 0, .slice none 0 0] from (k67_mkM _ _ _ (⟨1, false, (⟨2, 5, 7, 0⟩ : S33), (⟨false, 0, 0, ([] : List (S70))⟩ : S36)⟩ : S67) (Kd.R_nil _ _ _ _ _))) (Reps.c10 (show Kd.M k67 _ _ _ (⟨1, true, (⟨2, 5, 7, 0⟩ : S33), (⟨false, 0, 0, ([] : List (S70))⟩ : S36)⟩ : S67) [.int .i64 1, .bool true, .int .i64 2, .int .i64 5, .int .i64 7, .int .i64 0, .bool false, .int .i64 0, .int .i64 0, .slice none 0 0] from (k67_mkM _ _ _ (⟨1, true, (⟨2, 5, 7, 0⟩ : S33), (⟨false, 0, 0, ([] : List (S70))⟩ : S36)⟩ : S67) (Kd.R_nil _ _ _ _ _))) (Reps.c10 (show Kd.M k67 _ _ _ (⟨0, true, (⟨1, 5, 0, 0⟩ : S33), (⟨true, 0, 7, ([] : List (S70))⟩ : S36)⟩ : S67) [.int .i64 0, .bool true, .int .i64 1, .int .i64 5, .int .i64 0, .int .i64 0, .bool true, .int .i64 0, .int .i64 7, .slice none 0 0] from (k67_mkM _ _ _ (⟨0, true, (⟨1, 5, 0, 0⟩ : S33), (⟨true, 0, 7, ([] : List (S70))⟩ : S36)⟩ : S67) (Kd.R_nil _ _ _ _ _))) (Reps.none _ _)))))); intro v123 w6 ho7 hb hg_ hnew_; clear hg_ hnew_; (first | rw [← Ny122.out] at ho7 | (simp only [Int.reduceToNat] at ho7; rw [← Ny122.out] at ho7)); have n0_ := asd (Kd.S_lower ho7 (below_size (skG HB.out GE120.out GE121.out))); have n1_ := asd (blk_below (g := gb120) (o := .cells #[.int .i64 1, .int .i64 5, .int .i64 0, .int .i64 0] 33 (0, 0)) (by refine skk ?_; refine blk_far ?_ NB120_121.out _; refine skk ?_; refine blk_far ?_ NB120_121.out _; refine skk ?_; refine blk_far ?_ NB120_121.out _; refine skk ?_; refine blk_far ?_ NB120_121.out _; refine skk ?_; refine blk_put (cs := #[.int .i64 1, .int .i64 5, .int .i64 0, .int .i64 0]) ?_ 3 _ rfl; refine skk ?_; refine blk_put (cs := #[.int .i64 1, .int .i64 5, .int .i64 0, .int .i64 0]) ?_ 2 _ rfl; refine skk ?_; refine blk_put (cs := #[.int .i64 1, .int .i64 0, .int .i64 0, .int .i64 0]) ?_ 1 _ rfl; refine skk ?_; refine blk_put (cs := #[.int .i64 0, .int .i64 0, .int .i64 0, .int .i64 0]) ?_ 0 _ rfl; refine skk ?_; exact BK120.out) hb); have n2_ := asd (blk_below (g := gb121) (o := .cells #[.int .i64 2, .int .i64 5, .int .i64 7, .int .i64 0] 33 (0, 0)) (by refine skk ?_; refine blk_put (cs := #[.int .i64 2, .int .i64 5, .int .i64 7, .int .i64 0]) ?_ 3 _ rfl; refine skk ?_; refine blk_put (cs := #[.int .i64 2, .int .i64 5, .int .i64 0, .int .i64 0]) ?_ 2 _ rfl; refine skk ?_; refine blk_put (cs := #[.int .i64 2, .int .i64 0, .int .i64 0, .int .i64 0]) ?_ 1 _ rfl; refine skk ?_; refine blk_put (cs := #[.int .i64 0, .int .i64 0, .int .i64 0, .int .i64 0]) ?_ 0 _ rfl; refine skk ?_; refine blk_far ?_ NB121_120.out _; refine skk ?_; refine blk_far ?_ NB121_120.out _; refine skk ?_; refine blk_far ?_ NB121_120.out _; refine skk ?_; refine blk_far ?_ NB121_120.out _; refine skk ?_; exact BK121.out) hb); have n3_ := asd (below_step (skG HB.out GE120.out GE121.out) hb); clear BK120; clear BK121; clear HB; have HO124 := n0_; have BK120 := n1_; have BK121 := n2_; have HB := n3_; clear n0_ n1_ n2_ n3_; clear hb ho7))
 go_ret
 exact ⟨_, re, by (with_reducible repeat (first | apply Kd.S_alloc | apply Kd.S_drewN | apply Kd.S_drew)); exact HO124.out, skG HB.out GE120.out GE121.out⟩
end Go.Proofs.Ytagdkmcgepidoaa.P
/- F32 -/
namespace Go.Proofs.Ytagdkmcgepidoaa.P
open Go.RowKit Go.Proofs.YtagdkmcgepidoaaW.PrintWords Go.Proofs.YtagdkmcgepidoaaW.PrintLast Go.Proofs.YtagdkmcgepidoaaW.PrintMore
attribute [local go_sem] max2_int min2_int max_two min_two max_three min_three max_four min_four   -- for this text's walks alone
set_option linter.unusedVariables false
set_option linter.unusedSimpArgs false
end Go.Proofs.Ytagdkmcgepidoaa.P
/- F33 -/
namespace Go.Proofs.Ytagdkmcgepidoaa.P
open Go.RowKit Go.Proofs.YtagdkmcgepidoaaW.PrintWords Go.Proofs.YtagdkmcgepidoaaW.PrintLast Go.Proofs.YtagdkmcgepidoaaW.PrintMore
attribute [local go_sem] max2_int min2_int max_two min_two max_three min_three max_four min_four   -- for this text's walks alone
set_option linter.unusedVariables false
set_option linter.unusedSimpArgs false
end Go.Proofs.Ytagdkmcgepidoaa.P
/- F34 -/
namespace Go.Proofs.Ytagdkmcgepidoaa.P
open Go.RowKit Go.Proofs.YtagdkmcgepidoaaW.PrintWords Go.Proofs.YtagdkmcgepidoaaW.PrintLast Go.Proofs.YtagdkmcgepidoaaW.PrintMore
attribute [local go_sem] max2_int min2_int max_two min_two max_three min_three max_four min_four   -- for this text's walks alone
set_option linter.unusedVariables false
set_option linter.unusedSimpArgs false
attribute [local go_sem high] eqA33
end Go.Proofs.Ytagdkmcgepidoaa.P
/- F35 -/
namespace Go.Proofs.Ytagdkmcgepidoaa.P
open Go.RowKit Go.Proofs.YtagdkmcgepidoaaW.PrintWords Go.Proofs.YtagdkmcgepidoaaW.PrintLast Go.Proofs.YtagdkmcgepidoaaW.PrintMore
attribute [local go_sem] max2_int min2_int max_two min_two max_three min_three max_four min_four   -- for this text's walks alone
set_option linter.unusedVariables false
set_option linter.unusedSimpArgs false
end Go.Proofs.Ytagdkmcgepidoaa.P
/- F36 -/
namespace Go.Proofs.Ytagdkmcgepidoaa.P
open Go.RowKit Go.Proofs.YtagdkmcgepidoaaW.PrintWords Go.Proofs.YtagdkmcgepidoaaW.PrintLast Go.Proofs.YtagdkmcgepidoaaW.PrintMore
attribute [local go_sem] max2_int min2_int max_two min_two max_three min_three max_four min_four   -- for this text's walks alone
set_option linter.unusedVariables false
set_option linter.unusedSimpArgs false
end Go.Proofs.Ytagdkmcgepidoaa.P
/- F44 -/
namespace Go.Proofs.Ytagdkmcgepidoaa.P
open Go.RowKit Go.Proofs.YtagdkmcgepidoaaW.PrintWords Go.Proofs.YtagdkmcgepidoaaW.PrintLast Go.Proofs.YtagdkmcgepidoaaW.PrintMore
attribute [local go_sem] max2_int min2_int max_two min_two max_three min_three max_four min_four   -- for this text's walks alone
set_option linter.unusedVariables false
set_option linter.unusedSimpArgs false
end Go.Proofs.Ytagdkmcgepidoaa.P
/- F42 -/
namespace Go.Proofs.Ytagdkmcgepidoaa.P
open Go.RowKit Go.Proofs.YtagdkmcgepidoaaW.PrintWords Go.Proofs.YtagdkmcgepidoaaW.PrintLast Go.Proofs.YtagdkmcgepidoaaW.PrintMore
attribute [local go_sem] max2_int min2_int max_two min_two max_three min_three max_four min_four   -- for this text's walks alone
set_option linter.unusedVariables false
set_option linter.unusedSimpArgs false
end Go.Proofs.Ytagdkmcgepidoaa.P
/- F43 -/
namespace Go.Proofs.Ytagdkmcgepidoaa.P
open Go.RowKit Go.Proofs.YtagdkmcgepidoaaW.PrintWords Go.Proofs.YtagdkmcgepidoaaW.PrintLast Go.Proofs.YtagdkmcgepidoaaW.PrintMore
attribute [local go_sem] max2_int min2_int max_two min_two max_three min_three max_four min_four   -- for this text's walks alone
set_option linter.unusedVariables false
set_option linter.unusedSimpArgs false
end Go.Proofs.Ytagdkmcgepidoaa.P
/- F46 -/
namespace Go.Proofs.Ytagdkmcgepidoaa.P
open Go.RowKit Go.Proofs.YtagdkmcgepidoaaW.PrintWords Go.Proofs.YtagdkmcgepidoaaW.PrintLast Go.Proofs.YtagdkmcgepidoaaW.PrintMore
attribute [local go_sem] max2_int min2_int max_two min_two max_three min_three max_four min_four   -- for this text's walks alone
set_option linter.unusedVariables false
set_option linter.unusedSimpArgs false
end Go.Proofs.Ytagdkmcgepidoaa.P
/- F24 -/
namespace Go.Proofs.Ytagdkmcgepidoaa.P
open Go.RowKit Go.Proofs.YtagdkmcgepidoaaW.PrintWords Go.Proofs.YtagdkmcgepidoaaW.PrintLast Go.Proofs.YtagdkmcgepidoaaW.PrintMore
attribute [local go_sem] max2_int min2_int max_two min_two max_three min_three max_four min_four   -- for this text's walks alone
set_option linter.unusedVariables false
set_option linter.unusedSimpArgs false
def larchref05_before.f (l0 : List (S76)) (a1 : Int) (a2 : Int) : Option (Bool) := if 0 ≤ a1 then (if a1 < (l0.length : Int) then (if ((J76 l0 a1).f4) = (-1) then (some false) else (if 0 ≤ a2 then (if a2 < (l0.length : Int) then (some (decide (((J76 l0 a1).f4) < ((J76 l0 a2).f3)))) else (none)) else (none))) else (none)) else (none)
set_option maxHeartbeats 8000000 in
set_option maxRecDepth 100000 in
theorem larchref05_before.calls (A0 : Option Addr) (c0 : Nat) (l0 : List (S76)) (a1 : Int) (a2 : Int) (r : Bool) (w : World) (hr0 : Kd.C k76 w A0 l0.length l0) (hc0 : l0.length ≤ c0) (h : larchref05_before.f l0 a1 a2 = some r) :
  Calls Try.prog 49 #[.slice A0 l0.length c0, .int .i64 a1, .int .i64 a2] w fun e w' => e = .returned (.bool r) ∧ Drawn0 w w' := by
 have HR0 := asd hr0
 have HC0 := asd hc0
 clear hr0 hc0
 have H : (if 0 ≤ a1 then (if a1 < (l0.length : Int) then (if ((J76 l0 a1).f4) = (-1) then (some false) else (if 0 ≤ a2 then (if a2 < (l0.length : Int) then (some (decide (((J76 l0 a1).f4) < ((J76 l0 a2).f3)))) else (none)) else (none))) else (none)) else (none)) = some r := h
 clear h
 by_cases c4 : 0 ≤ a1
 ·
  rw [if_pos c4] at H
  have c4b0 : decide (0 ≤ a1) = true := decide_eq_true c4
  clear c4
  by_cases c5 : a1 < (l0.length : Int)
  ·
   rw [if_pos c5] at H
   have c5b0 : decide (a1 < (l0.length : Int)) = true := decide_eq_true c5
   clear c5
   by_cases c6 : ((J76 l0 a1).f4) = (-1)
   ·
    rw [if_pos c6] at H
    have c6b0 : (((J76 l0 a1).f4) == (-1)) = true := beq_iff_eq.mpr c6
    have c6b1 : (((J76 l0 a1).f4) != (-1)) = false := bne_eq_false_iff_eq.mpr c6
    clear c6
    obtain rfl := Option.some.inj H
    have p194 : 0 ≤ (a1 : Int) := dt
    have q194 : a1 < (l0.length : Int) := dt
    obtain ⟨ad194, A194_8, c194_8, e194, hx194_0, hx194_1, hx194_2, hx194_3, hx194_4, hx194_5, hx194_6, hx194_7, hx194_8, hx194_9, hx194_10, hl194_8, hi194_8⟩ := at_T76 HR0.out a1 p194 q194
    cases e194
    have HR194_8 := asd hi194_8
    have HC194_8 := asd hl194_8
    clear hi194_8 hl194_8
    replace p194 := eq_true p194
    replace q194 := eq_true q194
    go_enter Try.func49, Try.ntmps49
    go_wp2
    repeat (go_quiet (fail); try go_wp2)
    go_ret
    exact ⟨by first | rfl | (simp; done) | (simp [*]; done), by repeat (first | exact Drawn0.refl _ | apply Drawn0.step)⟩
   ·
    rw [if_neg c6] at H
    have c6b0 : (((J76 l0 a1).f4) == (-1)) = false := beq_eq_false_iff_ne.mpr c6
    have c6b1 : (((J76 l0 a1).f4) != (-1)) = true := bne_iff_ne.mpr c6
    by_cases c7 : 0 ≤ a2
    ·
     rw [if_pos c7] at H
     have c7b0 : decide (0 ≤ a2) = true := decide_eq_true c7
     clear c7
     by_cases c8 : a2 < (l0.length : Int)
     ·
      rw [if_pos c8] at H
      have c8b0 : decide (a2 < (l0.length : Int)) = true := decide_eq_true c8
      clear c8
      obtain rfl := Option.some.inj H
      have p194 : 0 ≤ (a1 : Int) := dt
      have q194 : a1 < (l0.length : Int) := dt
      obtain ⟨ad194, A194_8, c194_8, e194, hx194_0, hx194_1, hx194_2, hx194_3, hx194_4, hx194_5, hx194_6, hx194_7, hx194_8, hx194_9, hx194_10, hl194_8, hi194_8⟩ := at_T76 HR0.out a1 p194 q194
      cases e194
      have HR194_8 := asd hi194_8
      have HC194_8 := asd hl194_8
      clear hi194_8 hl194_8
      replace p194 := eq_true p194
      replace q194 := eq_true q194
      have p195 : 0 ≤ (a1 : Int) := dt
      have q195 : a1 < (l0.length : Int) := dt
      obtain ⟨ad195, A195_8, c195_8, e195, hx195_0, hx195_1, hx195_2, hx195_3, hx195_4, hx195_5, hx195_6, hx195_7, hx195_8, hx195_9, hx195_10, hl195_8, hi195_8⟩ := at_T76 HR0.out a1 p195 q195
      obtain rfl : ad194 = ad195 := (by injection e195)
      have HR195_8 := asd hi195_8
      have HC195_8 := asd hl195_8
      clear hi195_8 hl195_8
      replace p195 := eq_true p195
      replace q195 := eq_true q195
      have ea_ := Option.some.inj (hx194_8.symm.trans hx195_8)
      injection ea_ with ea_ en_ ec_
      subst ea_
      subst ec_
      clear en_
      have p196 : 0 ≤ (a2 : Int) := dt
      have q196 : a2 < (l0.length : Int) := dt
      obtain ⟨ad196, A196_8, c196_8, e196, hx196_0, hx196_1, hx196_2, hx196_3, hx196_4, hx196_5, hx196_6, hx196_7, hx196_8, hx196_9, hx196_10, hl196_8, hi196_8⟩ := at_T76 HR0.out a2 p196 q196
      obtain rfl : ad194 = ad196 := (by injection e196)
      have HR196_8 := asd hi196_8
      have HC196_8 := asd hl196_8
      clear hi196_8 hl196_8
      replace p196 := eq_true p196
      replace q196 := eq_true q196
      go_enter Try.func49, Try.ntmps49
      go_wp2
      repeat (go_quiet (fail); try go_wp2)
      go_ret
      exact ⟨by first | rfl | (simp; done) | (simp [*]; done), by repeat (first | exact Drawn0.refl _ | apply Drawn0.step)⟩
     ·
      rw [if_neg c8] at H
      exact absurd H (by simp)
    ·
     rw [if_neg c7] at H
     exact absurd H (by simp)
  ·
   rw [if_neg c5] at H
   exact absurd H (by simp)
 ·
  rw [if_neg c4] at H
  exact absurd H (by simp)
end Go.Proofs.Ytagdkmcgepidoaa.P
/- F58 -/
namespace Go.Proofs.Ytagdkmcgepidoaa.P
open Go.RowKit Go.Proofs.YtagdkmcgepidoaaW.PrintWords Go.Proofs.YtagdkmcgepidoaaW.PrintLast Go.Proofs.YtagdkmcgepidoaaW.PrintMore
attribute [local go_sem] max2_int min2_int max_two min_two max_three min_three max_four min_four   -- for this text's walks alone
set_option linter.unusedVariables false
set_option linter.unusedSimpArgs false
mutual
def larchref05_fits.l0 : Nat → List (S76) → List Int → List Bool → Int → Option (Bool)
 | 0, _, _, _, _ => none
 | k + 1, x0, x1, x5, x6 => if x6 < (x1.length : Int) then (if 0 ≤ x6 then (if (rd x1 x6) < 0 then (some false) else (if (rd x1 x6) ≥ (x0.length : Int) then (some false) else (if 0 ≤ (rd x1 x6) then (if (rd x1 x6) < (x5.length : Int) then (if rdOf false x5 (rd x1 x6) = true then (some false) else (larchref05_fits.l0 k x0 x1 (x5.set ((rd x1 x6) : Int).toNat true) (wrap64 (x6 + 1)))) else (none)) else (none)))) else (none)) else (larchref05_fits.l1 k x0 x1 x5 0)
def larchref05_fits.l1 : Nat → List (S76) → List Int → List Bool → Int → Option (Bool)
 | 0, _, _, _, _ => none
 | k + 1, x0, x1, x5, x7 => if x7 < (x0.length : Int) then (if 0 ≤ x7 then (if ((J76 x0 x7).f4) = (-1) then (larchref05_fits.l1 k x0 x1 x5 (wrap64 (x7 + 1))) else (if x7 < (x5.length : Int) then (if rdOf false x5 x7 = true then (larchref05_fits.l1 k x0 x1 x5 (wrap64 (x7 + 1))) else (some false)) else (none))) else (none)) else (larchref05_fits.l2 k x0 x1 0)
def larchref05_fits.l2 : Nat → List (S76) → List Int → Int → Option (Bool)
 | 0, _, _, _ => none
 | k + 1, x0, x1, x8 => if x8 < (x1.length : Int) then (larchref05_fits.l3 k x0 x1 x8 (wrap64 (x8 + 1))) else (some true)
def larchref05_fits.l3 : Nat → List (S76) → List Int → Int → Int → Option (Bool)
 | 0, _, _, _, _ => none
 | k + 1, x0, x1, x8, x9 => if x9 < (x1.length : Int) then (if 0 ≤ x9 then (if 0 ≤ x8 then (if x8 < (x1.length : Int) then ((larchref05_before.f x0 (rd x1 x9) (rd x1 x8)).bind fun t434 => (if t434 = true then (some false) else (larchref05_fits.l3 k x0 x1 x8 (wrap64 (x9 + 1))))) else (none)) else (none)) else (none)) else (larchref05_fits.l2 k x0 x1 (wrap64 (x8 + 1)))
end
def larchref05_fits.f (k : Nat) (l0 : List (S76)) (l1 : List Int) : Option (Bool) := if 0 ≤ (l0.length : Int) then (if ((l0.length : Int) : Int).toNat ≤ 281474976710656 then (larchref05_fits.l0 k l0 l1 (List.replicate ((l0.length : Int) : Int).toNat false) 0) else (none)) else (none)
set_option maxHeartbeats 8000000 in
set_option maxRecDepth 100000 in
theorem larchref05_fits.calls (k : Nat) (A0 : Option Addr) (c0 : Nat) (l0 : List (S76)) (A1 : Option Addr) (c1 : Nat) (l1 : List Int) (r : Bool) (w : World) (hr0 : Kd.C k76 w A0 l0.length l0) (hc0 : l0.length ≤ c0) (hr1 : Kd.C (Kd.int .i64) w A1 l1.length l1) (hc1 : l1.length ≤ c1) (h : larchref05_fits.f k l0 l1 = some r) :
  Calls Try.prog 48 #[.slice A0 l0.length c0, .slice A1 l1.length c1] w fun e w' => e = .returned (.bool r) ∧ Below w.heap.size w w' := by
 have HR0 := asd hr0
 have HC0 := asd hc0
 clear hr0 hc0
 have HR1 := asd hr1
 have HC1 := asd hc1
 clear hr1 hc1
 have HB := asd (Below.refl w.heap.size w)
 have H : (if 0 ≤ (l0.length : Int) then (if ((l0.length : Int) : Int).toNat ≤ 281474976710656 then (larchref05_fits.l0 k l0 l1 (List.replicate ((l0.length : Int) : Int).toNat false) 0) else (none)) else (none)) = some r := h
 clear h
 by_cases c3 : 0 ≤ (l0.length : Int)
 ·
  rw [if_pos c3] at H
  have c3b0 := eq_true c3
  have c3b1 : decide (0 ≤ (l0.length : Int)) = true := decide_eq_true c3
  clear c3
  by_cases c4 : ((l0.length : Int) : Int).toNat ≤ 281474976710656
  ·
   rw [if_pos c4] at H
   have c4b0 := eq_true c4
   have c4b1 : decide (((l0.length : Int) : Int).toNat ≤ 281474976710656) = true := decide_eq_true c4
   clear c4
   obtain ⟨y421, hy421⟩ : ∃ y_ : List Bool, y_ = (List.replicate ((l0.length : Int) : Int).toNat false) := ⟨_, rfl⟩
   replace H : (larchref05_fits.l0 k l0 l1 y421 0) = some r := by first | (rw [hy421]; with_reducible exact H) | (have H2_ := (Option.bind_some _ _).symm.trans H; rw [hy421]; with_reducible exact H2_) | (have H2_ := (Option.bind_some _ _).symm.trans H; with_reducible exact H2_) | with_reducible exact H | (rw [hy421]; exact H) | exact H
   have Ny421 := asd hy421
   clear hy421
   have H' := asd H
   clear H
   go_enter Try.func48, Try.ntmps48
   go_wp2_with (first | ((with_reducible refine gate_dst (N := 12) rfl ?_); (try (refine gate_guard (by rfl) ?_; dsimp only)); refine Kd.R_make Kd.bool _ 4 rfl (N := 12) rfl 31 _ _ rfl (l0.length : Int) rfl rfl Try.underlying31 (.bool false) 1 info4 rfl (by decide) (by omega) false (ok := fun _ => True) (okp := fun _ => True) rfl (fun _ hk => hk) trivial dt (Nat.le_trans (Nat.mul_le_mul_right _ (dt : (l0.length : Int).toNat ≤ 281474976710656)) (by omega)) (Below.refl _ _) (Nat.le_refl _) ?_; intro v422 w5 ho6 hb hg_ hnew_; clear hg_ hnew_; (first | rw [← Ny421.out] at ho6 | (simp only [Int.reduceToNat] at ho6; rw [← Ny421.out] at ho6)); have n0_ := asd (Kd.R_lower ho6 (below_size (skB HB.out))); have n1_ := asd (below_step (skB HB.out) hb); clear HB; have HO423 := n0_; have HB := n1_; clear n0_ n1_; clear hb ho6))
   repeat (go_quiet (first | ((with_reducible refine gate_dst (N := 12) rfl ?_); (try (refine gate_guard (by rfl) ?_; dsimp only)); refine Kd.R_make Kd.bool _ 4 rfl (N := 12) rfl 31 _ _ rfl (l0.length : Int) rfl rfl Try.underlying31 (.bool false) 1 info4 rfl (by decide) (by omega) false (ok := fun _ => True) (okp := fun _ => True) rfl (fun _ hk => hk) trivial dt (Nat.le_trans (Nat.mul_le_mul_right _ (dt : (l0.length : Int).toNat ≤ 281474976710656)) (by omega)) (Below.refl _ _) (Nat.le_refl _) ?_; intro v422 w5 ho6 hb hg_ hnew_; clear hg_ hnew_; (first | rw [← Ny421.out] at ho6 | (simp only [Int.reduceToNat] at ho6; rw [← Ny421.out] at ho6)); have n0_ := asd (Kd.R_lower ho6 (below_size (skB HB.out))); have n1_ := asd (below_step (skB HB.out) hb); clear HB; have HO423 := n0_; have HB := n1_; clear n0_ n1_; clear hb ho6)); try go_wp2_with (first | ((with_reducible refine gate_dst (N := 12) rfl ?_); (try (refine gate_guard (by rfl) ?_; dsimp only)); refine Kd.R_make Kd.bool _ 4 rfl (N := 12) rfl 31 _ _ rfl (l0.length : Int) rfl rfl Try.underlying31 (.bool false) 1 info4 rfl (by decide) (by omega) false (ok := fun _ => True) (okp := fun _ => True) rfl (fun _ hk => hk) trivial dt (Nat.le_trans (Nat.mul_le_mul_right _ (dt : (l0.length : Int).toNat ≤ 281474976710656)) (by omega)) (Below.refl _ _) (Nat.le_refl _) ?_; intro v422 w5 ho6 hb hg_ hnew_; clear hg_ hnew_; (first | rw [← Ny421.out] at ho6 | (simp only [Int.reduceToNat] at ho6; rw [← Ny421.out] at ho6)); have n0_ := asd (Kd.R_lower ho6 (below_size (skB HB.out))); have n1_ := asd (below_step (skB HB.out) hb); clear HB; have HO423 := n0_; have HB := n1_; clear n0_ n1_; clear hb ho6)))
   go_loopg [6] k (fun kq v6 w' => ∃ (x5_1 : List Bool) (x6_1 : Int), v6 = .int .i64 x6_1 ∧ Aside0 (larchref05_fits.l0 kq l0 l1 x5_1 x6_1 = some r) ∧ Aside0 (kq ≤ k) ∧ Aside0 (Kd.R Kd.bool 4 w' w.heap.size (fun _ => True) v422 x5_1) ∧ Aside0 (Below w.heap.size w w'))
   case atStart => exact ⟨(y421), (0), rs, H', ⟨Nat.le_refl _⟩, ⟨skR HO423.out⟩, ⟨skB HB.out⟩⟩
   case round =>
    clear H'
    try clear c1
    try clear p2
    try clear c3
    try clear c3b0
    try clear c3b1
    try clear c4
    try clear c4b0
    try clear c4b1
    obtain ⟨x5_1, x6_1, rfl, HA, HK1, HO_5, HB⟩ := hrel
    cases gk with
    | zero => exact absurd HA.out (by simp [larchref05_fits.l0])
    | succ k1 =>
     have H := HA.out
     clear HA
     simp only [larchref05_fits.l0] at H
     by_cases c7 : x6_1 < (l1.length : Int)
     ·
      rw [if_pos c7] at H
      have c7b0 : decide (x6_1 < (l1.length : Int)) = true := decide_eq_true c7
      clear c7
      by_cases c8 : 0 ≤ x6_1
      ·
       rw [if_pos c8] at H
       have c8b0 : decide (0 ≤ x6_1) = true := decide_eq_true c8
       clear c8
       by_cases c9 : (rd l1 x6_1) < 0
       ·
        rw [if_pos c9] at H
        have c9b0 : decide ((rd l1 x6_1) < 0) = true := decide_eq_true c9
        clear c9
        obtain rfl := Option.some.inj H
        have p424 : 0 ≤ (x6_1 : Int) := dt
        have q424 : x6_1 < (l1.length : Int) := dt
        obtain ⟨ad424, e424, hx424_0⟩ := Kd.at_int HR1.out x6_1 p424 q424
        cases e424
        replace hx424_0 := skc HB.out hx424_0
        replace p424 := eq_true p424
        replace q424 := eq_true q424
        go_wp2
        repeat (go_quiet (fail); try go_wp2)
        go_ret
        exact ⟨re, skB HB.out⟩
       ·
        rw [if_neg c9] at H
        have c9b0 : decide ((rd l1 x6_1) < 0) = false := decide_eq_false c9
        clear c9
        by_cases c10 : (rd l1 x6_1) ≥ (l0.length : Int)
        ·
         rw [if_pos c10] at H
         have c10b0 : decide ((l0.length : Int) ≤ (rd l1 x6_1)) = true := decide_eq_true c10
         clear c10
         obtain rfl := Option.some.inj H
         have p424 : 0 ≤ (x6_1 : Int) := dt
         have q424 : x6_1 < (l1.length : Int) := dt
         obtain ⟨ad424, e424, hx424_0⟩ := Kd.at_int HR1.out x6_1 p424 q424
         cases e424
         replace hx424_0 := skc HB.out hx424_0
         replace p424 := eq_true p424
         replace q424 := eq_true q424
         have p425 : 0 ≤ (x6_1 : Int) := dt
         have q425 : x6_1 < (l1.length : Int) := dt
         obtain ⟨ad425, e425, hx425_0⟩ := Kd.at_int HR1.out x6_1 p425 q425
         obtain rfl : ad424 = ad425 := (by injection e425)
         replace hx425_0 := skc HB.out hx425_0
         replace p425 := eq_true p425
         replace q425 := eq_true q425
         go_wp2
         repeat (go_quiet (fail); try go_wp2)
         go_ret
         exact ⟨re, skB HB.out⟩
        ·
         rw [if_neg c10] at H
         have c10b0 : decide ((l0.length : Int) ≤ (rd l1 x6_1)) = false := decide_eq_false c10
         clear c10
         by_cases c11 : 0 ≤ (rd l1 x6_1)
         ·
          rw [if_pos c11] at H
          have c11b0 : decide (0 ≤ (rd l1 x6_1)) = true := decide_eq_true c11
          clear c11
          by_cases c12 : (rd l1 x6_1) < (x5_1.length : Int)
          ·
           rw [if_pos c12] at H
           have c12b0 : decide ((rd l1 x6_1) < (x5_1.length : Int)) = true := decide_eq_true c12
           clear c12
           obtain ⟨bq13, hbq13⟩ : ∃ b_ : Bool, b_ = (rdOf false x5_1 (rd l1 x6_1)) := ⟨_, rfl⟩
           replace H : (if bq13 = true then (some false) else (larchref05_fits.l0 k1 l0 l1 (x5_1.set ((rd l1 x6_1) : Int).toNat true) (wrap64 (x6_1 + 1)))) = some r := by rw [← hbq13] at H; exact H
           have Nbq13 := asd hbq13
           clear hbq13
           by_cases c14 : bq13 = true
           ·
            subst c14
            have H1 : (some false) = some r := by rw [if_pos rfl] at H; exact H
            clear H
            have H := H1
            clear H1
            obtain rfl := Option.some.inj H
            have p424 : 0 ≤ (x6_1 : Int) := dt
            have q424 : x6_1 < (l1.length : Int) := dt
            obtain ⟨ad424, e424, hx424_0⟩ := Kd.at_int HR1.out x6_1 p424 q424
            cases e424
            replace hx424_0 := skc HB.out hx424_0
            replace p424 := eq_true p424
            replace q424 := eq_true q424
            have p425 : 0 ≤ (x6_1 : Int) := dt
            have q425 : x6_1 < (l1.length : Int) := dt
            obtain ⟨ad425, e425, hx425_0⟩ := Kd.at_int HR1.out x6_1 p425 q425
            obtain rfl : ad424 = ad425 := (by injection e425)
            replace hx425_0 := skc HB.out hx425_0
            replace p425 := eq_true p425
            replace q425 := eq_true q425
            have p426 : 0 ≤ (x6_1 : Int) := dt
            have q426 : x6_1 < (l1.length : Int) := dt
            obtain ⟨ad426, e426, hx426_0⟩ := Kd.at_int HR1.out x6_1 p426 q426
            obtain rfl : ad424 = ad426 := (by injection e426)
            replace hx426_0 := skc HB.out hx426_0
            replace p426 := eq_true p426
            replace q426 := eq_true q426
            obtain ⟨Ao15, co15, eo15⟩ := Kd.R_slice HO_5.out
            subst eo15
            have p427 : 0 ≤ ((rd l1 x6_1) : Int) := dt
            have q427 : (rd l1 x6_1) < (x5_1.length : Int) := dt
            obtain ⟨ad427, e427, hx427_0⟩ := Kd.at_bool (Kd.R_reads' HO_5.out).2.2 (rd l1 x6_1) p427 q427
            (try rw [← Nbq13.out] at hx427_0)
            cases e427
            replace p427 := eq_true p427
            replace q427 := eq_true q427
            go_wp2
            repeat (go_quiet (fail); try go_wp2)
            go_ret
            exact ⟨re, skB HB.out⟩
           ·
            replace c14 := Bool.eq_false_iff.mpr c14
            subst c14
            have H1 : (larchref05_fits.l0 k1 l0 l1 (x5_1.set ((rd l1 x6_1) : Int).toNat true) (wrap64 (x6_1 + 1))) = some r := by rw [if_neg (show ¬ (false = true) by decide)] at H; exact H
            clear H
            have H := H1
            clear H1
            obtain ⟨y429, hy429⟩ : ∃ y_ : List Bool, y_ = (x5_1.set ((rd l1 x6_1) : Int).toNat true) := ⟨_, rfl⟩
            replace H : (larchref05_fits.l0 k1 l0 l1 y429 (wrap64 (x6_1 + 1))) = some r := by first | (rw [hy429]; with_reducible exact H) | (have H2_ := (Option.bind_some _ _).symm.trans H; rw [hy429]; with_reducible exact H2_) | (have H2_ := (Option.bind_some _ _).symm.trans H; with_reducible exact H2_) | with_reducible exact H | (rw [hy429]; exact H) | exact H
            have Ny429 := asd hy429
            clear hy429
            have H' := asd H
            clear H
            have p424 : 0 ≤ (x6_1 : Int) := dt
            have q424 : x6_1 < (l1.length : Int) := dt
            obtain ⟨ad424, e424, hx424_0⟩ := Kd.at_int HR1.out x6_1 p424 q424
            cases e424
            replace hx424_0 := skc HB.out hx424_0
            replace p424 := eq_true p424
            replace q424 := eq_true q424
            have p425 : 0 ≤ (x6_1 : Int) := dt
            have q425 : x6_1 < (l1.length : Int) := dt
            obtain ⟨ad425, e425, hx425_0⟩ := Kd.at_int HR1.out x6_1 p425 q425
            obtain rfl : ad424 = ad425 := (by injection e425)
            replace hx425_0 := skc HB.out hx425_0
            replace p425 := eq_true p425
            replace q425 := eq_true q425
            have p426 : 0 ≤ (x6_1 : Int) := dt
            have q426 : x6_1 < (l1.length : Int) := dt
            obtain ⟨ad426, e426, hx426_0⟩ := Kd.at_int HR1.out x6_1 p426 q426
            obtain rfl : ad424 = ad426 := (by injection e426)
            replace hx426_0 := skc HB.out hx426_0
            replace p426 := eq_true p426
            replace q426 := eq_true q426
            obtain ⟨Ao17, co17, eo17⟩ := Kd.R_slice HO_5.out
            subst eo17
            have p427 : 0 ≤ ((rd l1 x6_1) : Int) := dt
            have q427 : (rd l1 x6_1) < (x5_1.length : Int) := dt
            obtain ⟨ad427, e427, hx427_0⟩ := Kd.at_bool (Kd.R_reads' HO_5.out).2.2 (rd l1 x6_1) p427 q427
            (try rw [← Nbq13.out] at hx427_0)
            cases e427
            replace p427 := eq_true p427
            replace q427 := eq_true q427
            have p428 : 0 ≤ (x6_1 : Int) := dt
            have q428 : x6_1 < (l1.length : Int) := dt
            obtain ⟨ad428, e428, hx428_0⟩ := Kd.at_int HR1.out x6_1 p428 q428
            obtain rfl : ad424 = ad428 := (by injection e428)
            replace hx428_0 := skc HB.out hx428_0
            replace p428 := eq_true p428
            replace q428 := eq_true q428
            have p16 : 0 ≤ ((rd l1 x6_1) : Int) := dt
            have q16 : ((rd l1 x6_1) : Int) < ((x5_1.length : Int) : Int) := dt
            obtain ⟨go16, co16, eo16, gb16, gl16, cl16, HG16⟩ := Kd.R_form HO_5.out (by omega)
            (first | cases eo16 | (injection eo16 with ea_ en_ ec_; (first | subst ea_ | (injection ea_ with ea_; subst ea_)); subst ec_; clear en_))
            have GB16 := asd gb16
            have GG16 := asd HG16
            clear gb16 gl16 HG16
            (first | simp only [add_plain] at hx427_0 | skip)
            obtain ⟨hx16_0, hf16_0⟩ := Kd.R_celln false HO_5.out ((rd l1 x6_1) : Int) p16 q16
            replace p16 := eq_true p16
            replace q16 := eq_true q16
            have HP18 := Kd.R_putg HO_5.out ((rd l1 x6_1) : Int) true
            go_wp2_with (first | ((with_reducible refine gate_store (t := 4) (p := 47) rfl ?_); (try (rw [drewN_self wr]; generalize hq_ : World.drewN wr _ = wr; have n0_ := asd (Kd.R_at hq_ HO_5.out); have n1_ := asd (below_at hq_ HB.out); clear hq_ HO_5 HB; have HO_5 := n0_; have HB := n1_; clear n0_ n1_; (try (have HP18 := Kd.R_putg HO_5.out ((rd l1 x6_1) : Int) true)))); refine store_event (t := 4) (p := 47) (v := ?vo_w19) (w1 := (wr.setCell ⟨go16, ((rd l1 x6_1) : Int).toNat, none⟩ (.bool true))) ?hg ?ho ?hn ?hr ?_; (case ho => rfl); (case hg => rfl); (case hn => rfl); (case hr => first | (go_simp; done) | (go_simp; rfl)); intro w19 hw; have hg : wr.grownBy w19 (some go16) := (by rw [hw]; exact HP18.2); have hp_ : Kd.R Kd.bool 4 w19 w.heap.size (fun _ => True) (.slice (some ⟨go16, 0, none⟩) x5_1.length co17) y429 := (by rw [hw, Ny429.out]; exact HP18.1); clear HP18; have n0_ := asd (hp_); have n1_ := asd ((by rw [hw]; exact below_set (HB.out) GB16.out : Below w.heap.size w w19)); clear HO_5; clear HB; have HO_5 := n0_; have HB := n1_; clear n0_ n1_; clear hg hw hp_))
            repeat (go_quiet (first | ((with_reducible refine gate_store (t := 4) (p := 47) rfl ?_); (try (rw [drewN_self wr]; generalize hq_ : World.drewN wr _ = wr; have n0_ := asd (Kd.R_at hq_ HO_5.out); have n1_ := asd (below_at hq_ HB.out); clear hq_ HO_5 HB; have HO_5 := n0_; have HB := n1_; clear n0_ n1_; (try (have HP18 := Kd.R_putg HO_5.out ((rd l1 x6_1) : Int) true)))); refine store_event (t := 4) (p := 47) (v := ?vo_w19) (w1 := (wr.setCell ⟨go16, ((rd l1 x6_1) : Int).toNat, none⟩ (.bool true))) ?hg ?ho ?hn ?hr ?_; (case ho => rfl); (case hg => rfl); (case hn => rfl); (case hr => first | (go_simp; done) | (go_simp; rfl)); intro w19 hw; have hg : wr.grownBy w19 (some go16) := (by rw [hw]; exact HP18.2); have hp_ : Kd.R Kd.bool 4 w19 w.heap.size (fun _ => True) (.slice (some ⟨go16, 0, none⟩) x5_1.length co17) y429 := (by rw [hw, Ny429.out]; exact HP18.1); clear HP18; have n0_ := asd (hp_); have n1_ := asd ((by rw [hw]; exact below_set (HB.out) GB16.out : Below w.heap.size w w19)); clear HO_5; clear HB; have HO_5 := n0_; have HB := n1_; clear n0_ n1_; clear hg hw hp_)); try go_wp2_with (first | ((with_reducible refine gate_store (t := 4) (p := 47) rfl ?_); (try (rw [drewN_self wr]; generalize hq_ : World.drewN wr _ = wr; have n0_ := asd (Kd.R_at hq_ HO_5.out); have n1_ := asd (below_at hq_ HB.out); clear hq_ HO_5 HB; have HO_5 := n0_; have HB := n1_; clear n0_ n1_; (try (have HP18 := Kd.R_putg HO_5.out ((rd l1 x6_1) : Int) true)))); refine store_event (t := 4) (p := 47) (v := ?vo_w19) (w1 := (wr.setCell ⟨go16, ((rd l1 x6_1) : Int).toNat, none⟩ (.bool true))) ?hg ?ho ?hn ?hr ?_; (case ho => rfl); (case hg => rfl); (case hn => rfl); (case hr => first | (go_simp; done) | (go_simp; rfl)); intro w19 hw; have hg : wr.grownBy w19 (some go16) := (by rw [hw]; exact HP18.2); have hp_ : Kd.R Kd.bool 4 w19 w.heap.size (fun _ => True) (.slice (some ⟨go16, 0, none⟩) x5_1.length co17) y429 := (by rw [hw, Ny429.out]; exact HP18.1); clear HP18; have n0_ := asd (hp_); have n1_ := asd ((by rw [hw]; exact below_set (HB.out) GB16.out : Below w.heap.size w w19)); clear HO_5; clear HB; have HO_5 := n0_; have HB := n1_; clear n0_ n1_; clear hg hw hp_)))
            go_roundg k1
            case measure => have := HK1.out; omega
            case rel => exact ⟨(y429), (wrap64 (x6_1 + 1)), rs, H', ⟨by have := HK1.out; omega⟩, ⟨skR HO_5.out⟩, ⟨skB HB.out⟩⟩
          ·
           rw [if_neg c12] at H
           exact absurd H (by simp)
         ·
          rw [if_neg c11] at H
          exact absurd H (by simp)
      ·
       rw [if_neg c8] at H
       exact absurd H (by simp)
     ·
      rw [if_neg c7] at H
      have c7b0 : decide (x6_1 < (l1.length : Int)) = false := decide_eq_false c7
      clear c7
      have H' := asd H
      clear H
      go_wp2
      repeat (go_quiet (fail); try go_wp2)
      go_loopg [7] k1 (fun kq v7 w' => ∃ (x7_2 : Int), v7 = .int .i64 x7_2 ∧ Aside0 (larchref05_fits.l1 kq l0 l1 x5_1 x7_2 = some r) ∧ Aside0 (kq ≤ k1) ∧ Aside0 (Kd.R Kd.bool 4 w' w.heap.size (fun _ => True) v422 x5_1) ∧ Aside0 (Below w.heap.size w w'))
      case atStart => exact ⟨(0), rs, H', ⟨Nat.le_refl _⟩, ⟨skR HO_5.out⟩, ⟨skB HB.out⟩⟩
      case round =>
       clear H'
       try clear c1
       try clear p1
       try clear q1
       try clear hx1
       try clear p2
       try clear c3
       try clear c3b0
       try clear c3b1
       try clear c4
       try clear c4b0
       try clear c4b1
       try clear p4
       try clear q4
       try clear hx4
       try clear p6
       try clear c7
       try clear c7b0
       try clear c8
       try clear c8b0
       try clear c9
       try clear c9b0
       try clear c10
       try clear c10b0
       try clear c11
       try clear c11b0
       try clear c12
       try clear c12b0
       try clear q13
       try clear c14
       try clear p16
       try clear q16
       try clear hx16
       try clear hf16
       try clear hx16_0
       try clear hx424_0
       try clear hx425_0
       try clear hx426_0
       try clear hx427_0
       try clear hx428_0
       try clear p16
       try clear p2
       try clear p424
       try clear p425
       try clear p426
       try clear p427
       try clear p428
       try clear q16
       try clear q424
       try clear q425
       try clear q426
       try clear q427
       try clear q428
       obtain ⟨x7_2, rfl, HA, HK2, HO_5, HB⟩ := hrel
       cases gk with
       | zero => exact absurd HA.out (by simp [larchref05_fits.l1])
       | succ k2 =>
        have H := HA.out
        clear HA
        simp only [larchref05_fits.l1] at H
        by_cases c20 : x7_2 < (l0.length : Int)
        ·
         rw [if_pos c20] at H
         have c20b0 : decide (x7_2 < (l0.length : Int)) = true := decide_eq_true c20
         clear c20
         by_cases c21 : 0 ≤ x7_2
         ·
          rw [if_pos c21] at H
          have c21b0 : decide (0 ≤ x7_2) = true := decide_eq_true c21
          clear c21
          by_cases c22 : ((J76 l0 x7_2).f4) = (-1)
          ·
           rw [if_pos c22] at H
           have c22b0 : (((J76 l0 x7_2).f4) == (-1)) = true := beq_iff_eq.mpr c22
           have c22b1 : (((J76 l0 x7_2).f4) != (-1)) = false := bne_eq_false_iff_eq.mpr c22
           clear c22
           have H' := asd H
           clear H
           have p430 : 0 ≤ (x7_2 : Int) := dt
           have q430 : x7_2 < (l0.length : Int) := dt
           obtain ⟨ad430, A430_8, c430_8, e430, hx430_0, hx430_1, hx430_2, hx430_3, hx430_4, hx430_5, hx430_6, hx430_7, hx430_8, hx430_9, hx430_10, hl430_8, hi430_8⟩ := at_T76 HR0.out x7_2 p430 q430
           cases e430
           replace hx430_0 := skc HB.out hx430_0
           replace hx430_1 := skc HB.out hx430_1
           replace hx430_2 := skc HB.out hx430_2
           replace hx430_3 := skc HB.out hx430_3
           replace hx430_4 := skc HB.out hx430_4
           replace hx430_5 := skc HB.out hx430_5
           replace hx430_6 := skc HB.out hx430_6
           replace hx430_7 := skc HB.out hx430_7
           replace hx430_8 := skc HB.out hx430_8
           replace hx430_9 := skc HB.out hx430_9
           replace hx430_10 := skc HB.out hx430_10
           have HR430_8 := asd hi430_8
           have HC430_8 := asd hl430_8
           clear hi430_8 hl430_8
           replace p430 := eq_true p430
           replace q430 := eq_true q430
           go_wp2
           repeat (go_quiet (fail); try go_wp2)
           go_roundg k2
           case measure => have := HK1.out; have := HK2.out; omega
           case rel => exact ⟨(wrap64 (x7_2 + 1)), rs, H', ⟨by have := HK1.out; have := HK2.out; omega⟩, ⟨skR HO_5.out⟩, ⟨skB HB.out⟩⟩
          ·
           rw [if_neg c22] at H
           have c22b0 : (((J76 l0 x7_2).f4) == (-1)) = false := beq_eq_false_iff_ne.mpr c22
           have c22b1 : (((J76 l0 x7_2).f4) != (-1)) = true := bne_iff_ne.mpr c22
           by_cases c23 : x7_2 < (x5_1.length : Int)
           ·
            rw [if_pos c23] at H
            have c23b0 : decide (x7_2 < (x5_1.length : Int)) = true := decide_eq_true c23
            clear c23
            obtain ⟨bq24, hbq24⟩ : ∃ b_ : Bool, b_ = (rdOf false x5_1 x7_2) := ⟨_, rfl⟩
            replace H : (if bq24 = true then (larchref05_fits.l1 k2 l0 l1 x5_1 (wrap64 (x7_2 + 1))) else (some false)) = some r := by rw [← hbq24] at H; exact H
            have Nbq24 := asd hbq24
            clear hbq24
            by_cases c25 : bq24 = true
            ·
             subst c25
             have H1 : (larchref05_fits.l1 k2 l0 l1 x5_1 (wrap64 (x7_2 + 1))) = some r := by rw [if_pos rfl] at H; exact H
             clear H
             have H := H1
             clear H1
             have H' := asd H
             clear H
             have p430 : 0 ≤ (x7_2 : Int) := dt
             have q430 : x7_2 < (l0.length : Int) := dt
             obtain ⟨ad430, A430_8, c430_8, e430, hx430_0, hx430_1, hx430_2, hx430_3, hx430_4, hx430_5, hx430_6, hx430_7, hx430_8, hx430_9, hx430_10, hl430_8, hi430_8⟩ := at_T76 HR0.out x7_2 p430 q430
             (try rw [← Nbq24.out] at hx430_5)
             cases e430
             replace hx430_0 := skc HB.out hx430_0
             replace hx430_1 := skc HB.out hx430_1
             replace hx430_2 := skc HB.out hx430_2
             replace hx430_3 := skc HB.out hx430_3
             replace hx430_4 := skc HB.out hx430_4
             replace hx430_5 := skc HB.out hx430_5
             replace hx430_6 := skc HB.out hx430_6
             replace hx430_7 := skc HB.out hx430_7
             replace hx430_8 := skc HB.out hx430_8
             replace hx430_9 := skc HB.out hx430_9
             replace hx430_10 := skc HB.out hx430_10
             have HR430_8 := asd hi430_8
             have HC430_8 := asd hl430_8
             clear hi430_8 hl430_8
             replace p430 := eq_true p430
             replace q430 := eq_true q430
             obtain ⟨Ao26, co26, eo26⟩ := Kd.R_slice HO_5.out
             subst eo26
             have p431 : 0 ≤ (x7_2 : Int) := dt
             have q431 : x7_2 < (x5_1.length : Int) := dt
             obtain ⟨ad431, e431, hx431_0⟩ := Kd.at_bool (Kd.R_reads' HO_5.out).2.2 x7_2 p431 q431
             (try rw [← Nbq24.out] at hx431_0)
             cases e431
             replace p431 := eq_true p431
             replace q431 := eq_true q431
             go_wp2
             repeat (go_quiet (fail); try go_wp2)
             go_roundg k2
             case measure => have := HK1.out; have := HK2.out; omega
             case rel => exact ⟨(wrap64 (x7_2 + 1)), rs, H', ⟨by have := HK1.out; have := HK2.out; omega⟩, ⟨skR HO_5.out⟩, ⟨skB HB.out⟩⟩
            ·
             replace c25 := Bool.eq_false_iff.mpr c25
             subst c25
             have H1 : (some false) = some r := by rw [if_neg (show ¬ (false = true) by decide)] at H; exact H
             clear H
             have H := H1
             clear H1
             obtain rfl := Option.some.inj H
             have p430 : 0 ≤ (x7_2 : Int) := dt
             have q430 : x7_2 < (l0.length : Int) := dt
             obtain ⟨ad430, A430_8, c430_8, e430, hx430_0, hx430_1, hx430_2, hx430_3, hx430_4, hx430_5, hx430_6, hx430_7, hx430_8, hx430_9, hx430_10, hl430_8, hi430_8⟩ := at_T76 HR0.out x7_2 p430 q430
             (try rw [← Nbq24.out] at hx430_5)
             cases e430
             replace hx430_0 := skc HB.out hx430_0
             replace hx430_1 := skc HB.out hx430_1
             replace hx430_2 := skc HB.out hx430_2
             replace hx430_3 := skc HB.out hx430_3
             replace hx430_4 := skc HB.out hx430_4
             replace hx430_5 := skc HB.out hx430_5
             replace hx430_6 := skc HB.out hx430_6
             replace hx430_7 := skc HB.out hx430_7
             replace hx430_8 := skc HB.out hx430_8
             replace hx430_9 := skc HB.out hx430_9
             replace hx430_10 := skc HB.out hx430_10
             have HR430_8 := asd hi430_8
             have HC430_8 := asd hl430_8
             clear hi430_8 hl430_8
             replace p430 := eq_true p430
             replace q430 := eq_true q430
             obtain ⟨Ao27, co27, eo27⟩ := Kd.R_slice HO_5.out
             subst eo27
             have p431 : 0 ≤ (x7_2 : Int) := dt
             have q431 : x7_2 < (x5_1.length : Int) := dt
             obtain ⟨ad431, e431, hx431_0⟩ := Kd.at_bool (Kd.R_reads' HO_5.out).2.2 x7_2 p431 q431
             (try rw [← Nbq24.out] at hx431_0)
             cases e431
             replace p431 := eq_true p431
             replace q431 := eq_true q431
             go_wp2
             repeat (go_quiet (fail); try go_wp2)
             go_ret
             exact ⟨re, skB HB.out⟩
           ·
            rw [if_neg c23] at H
            exact absurd H (by simp)
         ·
          rw [if_neg c21] at H
          exact absurd H (by simp)
        ·
         rw [if_neg c20] at H
         have c20b0 : decide (x7_2 < (l0.length : Int)) = false := decide_eq_false c20
         clear c20
         have H' := asd H
         clear H
         go_wp2
         repeat (go_quiet (fail); try go_wp2)
         go_loopg [8] k2 (fun kq v8 w' => ∃ (x8_3 : Int), v8 = .int .i64 x8_3 ∧ Aside0 (larchref05_fits.l2 kq l0 l1 x8_3 = some r) ∧ Aside0 (kq ≤ k2) ∧ Aside0 (Below w.heap.size w w'))
         case atStart => exact ⟨(0), rs, H', ⟨Nat.le_refl _⟩, ⟨skB HB.out⟩⟩
         case round =>
          clear H'
          try clear c1
          try clear p1
          try clear q1
          try clear hx1
          try clear c2
          try clear p2
          try clear q2
          try clear c3
          try clear c3b0
          try clear c3b1
          try clear c4
          try clear c4b0
          try clear c4b1
          try clear p4
          try clear q4
          try clear hx4
          try clear p6
          try clear c7
          try clear c7b0
          try clear c8
          try clear c8b0
          try clear c9
          try clear c9b0
          try clear c10
          try clear c10b0
          try clear c11
          try clear c11b0
          try clear c12
          try clear c12b0
          try clear q13
          try clear c14
          try clear p16
          try clear q16
          try clear hx16
          try clear hf16
          try clear c20
          try clear c20b0
          try clear c21
          try clear c21b0
          try clear c22
          try clear c22b0
          try clear c22b1
          try clear c23
          try clear c23b0
          try clear q24
          try clear c25
          try clear hx16_0
          try clear hx424_0
          try clear hx425_0
          try clear hx426_0
          try clear hx427_0
          try clear hx428_0
          try clear hx430_0
          try clear hx430_1
          try clear hx430_10
          try clear hx430_2
          try clear hx430_3
          try clear hx430_4
          try clear hx430_5
          try clear hx430_6
          try clear hx430_7
          try clear hx430_8
          try clear hx430_9
          try clear hx431_0
          try clear p1
          try clear p16
          try clear p2
          try clear p4
          try clear p424
          try clear p425
          try clear p426
          try clear p427
          try clear p428
          try clear p430
          try clear p431
          try clear p6
          try clear q1
          try clear q13
          try clear q16
          try clear q4
          try clear q424
          try clear q425
          try clear q426
          try clear q427
          try clear q428
          try clear q430
          try clear q431
          obtain ⟨x8_3, rfl, HA, HK3, HB⟩ := hrel
          cases gk with
          | zero => exact absurd HA.out (by simp [larchref05_fits.l2])
          | succ k3 =>
           have H := HA.out
           clear HA
           simp only [larchref05_fits.l2] at H
           by_cases c28 : x8_3 < (l1.length : Int)
           ·
            rw [if_pos c28] at H
            have c28b0 : decide (x8_3 < (l1.length : Int)) = true := decide_eq_true c28
            clear c28
            have H' := asd H
            clear H
            go_wp2
            repeat (go_quiet (fail); try go_wp2)
            go_loopg [9] k3 (fun kq v9 w' => ∃ (x9_4 : Int), v9 = .int .i64 x9_4 ∧ Aside0 (larchref05_fits.l3 kq l0 l1 x8_3 x9_4 = some r) ∧ Aside0 (kq ≤ k3) ∧ Aside0 (Below w.heap.size w w'))
            case atStart => exact ⟨(wrap64 (x8_3 + 1)), rs, H', ⟨Nat.le_refl _⟩, ⟨skB HB.out⟩⟩
            case round =>
             clear H'
             try clear c1
             try clear p1
             try clear q1
             try clear hx1
             try clear c2
             try clear p2
             try clear q2
             try clear c3
             try clear c3b0
             try clear c3b1
             try clear c4
             try clear c4b0
             try clear c4b1
             try clear p4
             try clear q4
             try clear hx4
             try clear p6
             try clear c7
             try clear c7b0
             try clear c8
             try clear c8b0
             try clear c9
             try clear c9b0
             try clear c10
             try clear c10b0
             try clear c11
             try clear c11b0
             try clear c12
             try clear c12b0
             try clear q13
             try clear c14
             try clear p16
             try clear q16
             try clear hx16
             try clear hf16
             try clear c20
             try clear c20b0
             try clear c21
             try clear c21b0
             try clear c22
             try clear c22b0
             try clear c22b1
             try clear c23
             try clear c23b0
             try clear q24
             try clear c25
             try clear c28
             try clear c28b0
             try clear hx16_0
             try clear hx424_0
             try clear hx425_0
             try clear hx426_0
             try clear hx427_0
             try clear hx428_0
             try clear hx430_0
             try clear hx430_1
             try clear hx430_10
             try clear hx430_2
             try clear hx430_3
             try clear hx430_4
             try clear hx430_5
             try clear hx430_6
             try clear hx430_7
             try clear hx430_8
             try clear hx430_9
             try clear hx431_0
             try clear p1
             try clear p16
             try clear p2
             try clear p4
             try clear p424
             try clear p425
             try clear p426
             try clear p427
             try clear p428
             try clear p430
             try clear p431
             try clear p6
             try clear q1
             try clear q13
             try clear q16
             try clear q2
             try clear q24
             try clear q4
             try clear q424
             try clear q425
             try clear q426
             try clear q427
             try clear q428
             try clear q430
             try clear q431
             obtain ⟨x9_4, rfl, HA, HK4, HB⟩ := hrel
             cases gk with
             | zero => exact absurd HA.out (by simp [larchref05_fits.l3])
             | succ k4 =>
              have H := HA.out
              clear HA
              simp only [larchref05_fits.l3] at H
              by_cases c29 : x9_4 < (l1.length : Int)
              ·
               rw [if_pos c29] at H
               have c29b0 : decide (x9_4 < (l1.length : Int)) = true := decide_eq_true c29
               clear c29
               by_cases c30 : 0 ≤ x9_4
               ·
                rw [if_pos c30] at H
                have c30b0 : decide (0 ≤ x9_4) = true := decide_eq_true c30
                clear c30
                by_cases c31 : 0 ≤ x8_3
                ·
                 rw [if_pos c31] at H
                 have c31b0 : decide (0 ≤ x8_3) = true := decide_eq_true c31
                 clear c31
                 by_cases c32 : x8_3 < (l1.length : Int)
                 ·
                  rw [if_pos c32] at H
                  have c32b0 : decide (x8_3 < (l1.length : Int)) = true := decide_eq_true c32
                  clear c32
                  replace H := Option.bind_eq_some_iff.mp H
                  obtain ⟨t434, A330, H⟩ := H
                  replace H : (if t434 = true then (some false) else (larchref05_fits.l3 k4 l0 l1 x8_3 (wrap64 (x9_4 + 1)))) = some r := H
                  have A33 := asd A330
                  clear A330
                  by_cases c34 : t434 = true
                  ·
                   subst c34
                   have H1 : (some false) = some r := by rw [if_pos rfl] at H; exact H
                   clear H
                   have H := H1
                   clear H1
                   obtain rfl := Option.some.inj H
                   have p432 : 0 ≤ (x9_4 : Int) := dt
                   have q432 : x9_4 < (l1.length : Int) := dt
                   obtain ⟨ad432, e432, hx432_0⟩ := Kd.at_int HR1.out x9_4 p432 q432
                   cases e432
                   replace hx432_0 := skc HB.out hx432_0
                   replace p432 := eq_true p432
                   replace q432 := eq_true q432
                   have p433 : 0 ≤ (x8_3 : Int) := dt
                   have q433 : x8_3 < (l1.length : Int) := dt
                   obtain ⟨ad433, e433, hx433_0⟩ := Kd.at_int HR1.out x8_3 p433 q433
                   obtain rfl : ad432 = ad433 := (by injection e433)
                   replace hx433_0 := skc HB.out hx433_0
                   replace p433 := eq_true p433
                   replace q433 := eq_true q433
                   go_wp2_with (first | (go_at_call 49; (with_reducible refine (larchref05_before.calls _ _ l0 (rd l1 x9_4) (rd l1 x8_3) true _ ?side1 ?side2 A33.out).mono ?_); (case side1 => exact skC (Kd.C_below HR0.out HB.out)); (case side2 => exact HC0.out); rintro e w' ⟨rfl, ⟨nd, rfl⟩⟩; (try first | exact ⟨rfl, _, World.drewN_drewN _ _ _⟩ | exact ⟨rfl, _, Eq.trans (World.drewN_drewN _ _ _) (congrArg (World.drewN _) (Nat.add_assoc _ _ _))⟩)))
                   repeat (go_quiet (first | (go_at_call 49; (with_reducible refine (larchref05_before.calls _ _ l0 (rd l1 x9_4) (rd l1 x8_3) true _ ?side1 ?side2 A33.out).mono ?_); (case side1 => exact skC (Kd.C_below HR0.out HB.out)); (case side2 => exact HC0.out); rintro e w' ⟨rfl, ⟨nd, rfl⟩⟩; (try first | exact ⟨rfl, _, World.drewN_drewN _ _ _⟩ | exact ⟨rfl, _, Eq.trans (World.drewN_drewN _ _ _) (congrArg (World.drewN _) (Nat.add_assoc _ _ _))⟩))); try go_wp2_with (first | (go_at_call 49; (with_reducible refine (larchref05_before.calls _ _ l0 (rd l1 x9_4) (rd l1 x8_3) true _ ?side1 ?side2 A33.out).mono ?_); (case side1 => exact skC (Kd.C_below HR0.out HB.out)); (case side2 => exact HC0.out); rintro e w' ⟨rfl, ⟨nd, rfl⟩⟩; (try first | exact ⟨rfl, _, World.drewN_drewN _ _ _⟩ | exact ⟨rfl, _, Eq.trans (World.drewN_drewN _ _ _) (congrArg (World.drewN _) (Nat.add_assoc _ _ _))⟩))))
                   go_ret
                   exact ⟨re, skB HB.out⟩
                  ·
                   replace c34 := Bool.eq_false_iff.mpr c34
                   subst c34
                   have H1 : (larchref05_fits.l3 k4 l0 l1 x8_3 (wrap64 (x9_4 + 1))) = some r := by rw [if_neg (show ¬ (false = true) by decide)] at H; exact H
                   clear H
                   have H := H1
                   clear H1
                   have H' := asd H
                   clear H
                   have p432 : 0 ≤ (x9_4 : Int) := dt
                   have q432 : x9_4 < (l1.length : Int) := dt
                   obtain ⟨ad432, e432, hx432_0⟩ := Kd.at_int HR1.out x9_4 p432 q432
                   cases e432
                   replace hx432_0 := skc HB.out hx432_0
                   replace p432 := eq_true p432
                   replace q432 := eq_true q432
                   have p433 : 0 ≤ (x8_3 : Int) := dt
                   have q433 : x8_3 < (l1.length : Int) := dt
                   obtain ⟨ad433, e433, hx433_0⟩ := Kd.at_int HR1.out x8_3 p433 q433
                   obtain rfl : ad432 = ad433 := (by injection e433)
                   replace hx433_0 := skc HB.out hx433_0
                   replace p433 := eq_true p433
                   replace q433 := eq_true q433
                   go_wp2_with (first | (go_at_call 49; (with_reducible refine (larchref05_before.calls _ _ l0 (rd l1 x9_4) (rd l1 x8_3) false _ ?side1 ?side2 A33.out).mono ?_); (case side1 => exact skC (Kd.C_below HR0.out HB.out)); (case side2 => exact HC0.out); rintro e w' ⟨rfl, ⟨nd, rfl⟩⟩; (try first | exact ⟨rfl, _, World.drewN_drewN _ _ _⟩ | exact ⟨rfl, _, Eq.trans (World.drewN_drewN _ _ _) (congrArg (World.drewN _) (Nat.add_assoc _ _ _))⟩)))
                   repeat (go_quiet (first | (go_at_call 49; (with_reducible refine (larchref05_before.calls _ _ l0 (rd l1 x9_4) (rd l1 x8_3) false _ ?side1 ?side2 A33.out).mono ?_); (case side1 => exact skC (Kd.C_below HR0.out HB.out)); (case side2 => exact HC0.out); rintro e w' ⟨rfl, ⟨nd, rfl⟩⟩; (try first | exact ⟨rfl, _, World.drewN_drewN _ _ _⟩ | exact ⟨rfl, _, Eq.trans (World.drewN_drewN _ _ _) (congrArg (World.drewN _) (Nat.add_assoc _ _ _))⟩))); try go_wp2_with (first | (go_at_call 49; (with_reducible refine (larchref05_before.calls _ _ l0 (rd l1 x9_4) (rd l1 x8_3) false _ ?side1 ?side2 A33.out).mono ?_); (case side1 => exact skC (Kd.C_below HR0.out HB.out)); (case side2 => exact HC0.out); rintro e w' ⟨rfl, ⟨nd, rfl⟩⟩; (try first | exact ⟨rfl, _, World.drewN_drewN _ _ _⟩ | exact ⟨rfl, _, Eq.trans (World.drewN_drewN _ _ _) (congrArg (World.drewN _) (Nat.add_assoc _ _ _))⟩))))
                   go_roundg k4
                   case measure => have := HK1.out; have := HK2.out; have := HK3.out; have := HK4.out; omega
                   case rel => exact ⟨(wrap64 (x9_4 + 1)), rs, H', ⟨by have := HK1.out; have := HK2.out; have := HK3.out; have := HK4.out; omega⟩, ⟨skB HB.out⟩⟩
                 ·
                  rw [if_neg c32] at H
                  exact absurd H (by simp)
                ·
                 rw [if_neg c31] at H
                 exact absurd H (by simp)
               ·
                rw [if_neg c30] at H
                exact absurd H (by simp)
              ·
               rw [if_neg c29] at H
               have c29b0 : decide (x9_4 < (l1.length : Int)) = false := decide_eq_false c29
               clear c29
               have H' := asd H
               clear H
               go_wp2
               repeat (go_quiet (fail); try go_wp2)
               go_roundg k4
               case measure => have := HK1.out; have := HK2.out; have := HK3.out; have := HK4.out; omega
               case rel => exact ⟨(wrap64 (x8_3 + 1)), rs, H', ⟨by have := HK1.out; have := HK2.out; have := HK3.out; have := HK4.out; omega⟩, ⟨skB HB.out⟩⟩
           ·
            rw [if_neg c28] at H
            have c28b0 : decide (x8_3 < (l1.length : Int)) = false := decide_eq_false c28
            clear c28
            obtain rfl := Option.some.inj H
            go_wp2
            repeat (go_quiet (fail); try go_wp2)
            go_ret
            exact ⟨re, skB HB.out⟩
  ·
   rw [if_neg c4] at H
   exact absurd H (by simp)
 ·
  rw [if_neg c3] at H
  exact absurd H (by simp)
end Go.Proofs.Ytagdkmcgepidoaa.P
/- F59 -/
namespace Go.Proofs.Ytagdkmcgepidoaa.P
open Go.RowKit Go.Proofs.YtagdkmcgepidoaaW.PrintWords Go.Proofs.YtagdkmcgepidoaaW.PrintLast Go.Proofs.YtagdkmcgepidoaaW.PrintMore
attribute [local go_sem] max2_int min2_int max_two min_two max_three min_three max_four min_four   -- for this text's walks alone
set_option linter.unusedVariables false
set_option linter.unusedSimpArgs false
def larchref05_Fits.f (k : Nat) (l0 : List (S67)) (l1 : List Int) : Option (Bool × Int) := (larchref05_Calls.f k l0).bind fun bt435 => (if bt435.2 = 0 then ((larchref05_fits.f k bt435.1 l1).bind fun t439 => (some (t439, 0))) else (some (false, bt435.2)))
set_option maxHeartbeats 8000000 in
set_option maxRecDepth 100000 in
theorem larchref05_Fits.calls (k : Nat) (A0 : Option Addr) (c0 : Nat) (l0 : List (S67)) (A1 : Option Addr) (c1 : Nat) (l1 : List Int) (r1 : Bool) (r2 : Int) (w : World) (hr0 : Kd.C k67 w A0 l0.length l0) (hc0 : l0.length ≤ c0) (hr1 : Kd.C (Kd.int .i64) w A1 l1.length l1) (hc1 : l1.length ≤ c1) (h : larchref05_Fits.f k l0 l1 = some (r1, r2)) :
  Calls Try.prog 16 #[.slice A0 l0.length c0, .slice A1 l1.length c1] w fun e w' => e = .returned (.tuple #[.bool r1, .int .i64 r2]) ∧ Below w.heap.size w w' := by
 have HR0 := asd hr0
 have HC0 := asd hc0
 clear hr0 hc0
 have HR1 := asd hr1
 have HC1 := asd hc1
 clear hr1 hc1
 have HB := asd (Below.refl w.heap.size w)
 have H : ((larchref05_Calls.f k l0).bind fun bt435 => (if bt435.2 = 0 then ((larchref05_fits.f k bt435.1 l1).bind fun t439 => (some (t439, 0))) else (some (false, bt435.2)))) = some (r1, r2) := h
 clear h
 replace H := Option.bind_eq_some_iff.mp H
 obtain ⟨⟨t435, t436⟩, A30, H⟩ := H
 replace H : (if t436 = 0 then ((larchref05_fits.f k t435 l1).bind fun t439 => (some (t439, 0))) else (some (false, t436))) = some (r1, r2) := H
 have A3 := asd A30
 clear A30
 by_cases c4 : t436 = 0
 ·
  rw [if_pos c4] at H
  have c4b0 : (t436 == 0) = true := beq_iff_eq.mpr c4
  have c4b1 : (t436 != 0) = false := bne_eq_false_iff_eq.mpr c4
  clear c4
  replace H := Option.bind_eq_some_iff.mp H
  obtain ⟨t439, A50, H⟩ := H
  replace H : (some (t439, 0)) = some (r1, r2) := H
  have A5 := asd A50
  clear A50
  simp only [Option.some.injEq, Prod.mk.injEq] at H
  obtain ⟨rfl, rfl⟩ := H
  go_enter Try.func16, Try.ntmps16
  go_wp2_with (first | ((with_reducible refine gate_callee (f := 38) rfl ?_); refine goesL_ (some 10) rfl rfl Try.func38 (by kernel_rfl) rfl #[.slice A0 l0.length c0] rfl ags ?_; (with_reducible refine (larchref05_Calls.calls k _ _ l0 t435 t436 _ ?side1 ?side2 A3.out).mono ?_); (case side1 => exact skC HR0.out); (case side2 => exact HC0.out); rintro e w6 ⟨v437, rfl, ho0, hb⟩; refine ⟨_, rfl, ?_⟩; have n0_ := asd (Kd.S_lower ho0 (below_size (skB HB.out))); have n1_ := asd (below_step (skB HB.out) hb); clear HB; have HO438 := n0_; have HB := n1_; clear n0_ n1_; (try clear hb); (try clear hb2); (try clear hk); (try clear hi); (try clear ho0); obtain ⟨Ao7, co7, eo7⟩ := Kd.S_slice HO438.out; subst eo7) | ((with_reducible refine gate_callee (f := 48) rfl ?_); refine goesL_ (some 18) rfl rfl Try.func48 (by kernel_rfl) rfl #[.slice Ao7 t435.length co7, .slice A1 l1.length c1] rfl ags ?_; (with_reducible refine (larchref05_fits.calls k _ _ t435 _ _ l1 t439 _ ?side1 ?side2 ?side3 ?side4 A5.out).mono ?_); (case side1 => exact skC (Kd.S_reads' HO438.out).2.2); (case side2 => exact (Kd.S_reads' HO438.out).2.1); (case side3 => exact skC (Kd.C_below HR1.out HB.out)); (case side4 => exact HC1.out); rintro e w8 ⟨rfl, hb⟩; refine ⟨_, rfl, ?_⟩; have n0_ := asd (Kd.S_below (by (with_reducible repeat (first | apply Kd.S_alloc | apply Kd.S_drewN | apply Kd.S_drew)); exact HO438.out) hb); have n1_ := asd (below_step (skB HB.out) hb); clear HO438; clear HB; have HO438 := n0_; have HB := n1_; clear n0_ n1_; (try clear hb); (try clear hb2); (try clear hk); (try clear hi)))
  go_ret2
  exact ⟨re, skB HB.out⟩
 ·
  rw [if_neg c4] at H
  have c4b0 : (t436 == 0) = false := beq_eq_false_iff_ne.mpr c4
  have c4b1 : (t436 != 0) = true := bne_iff_ne.mpr c4
  simp only [Option.some.injEq, Prod.mk.injEq] at H
  obtain ⟨rfl, rfl⟩ := H
  go_enter Try.func16, Try.ntmps16
  go_wp2_with (first | ((with_reducible refine gate_callee (f := 38) rfl ?_); refine goesL_ (some 10) rfl rfl Try.func38 (by kernel_rfl) rfl #[.slice A0 l0.length c0] rfl ags ?_; (with_reducible refine (larchref05_Calls.calls k _ _ l0 t435 t436 _ ?side1 ?side2 A3.out).mono ?_); (case side1 => exact skC HR0.out); (case side2 => exact HC0.out); rintro e w9 ⟨v437, rfl, ho0, hb⟩; refine ⟨_, rfl, ?_⟩; have n0_ := asd (Kd.S_lower ho0 (below_size (skB HB.out))); have n1_ := asd (below_step (skB HB.out) hb); clear HB; have HO438 := n0_; have HB := n1_; clear n0_ n1_; (try clear hb); (try clear hb2); (try clear hk); (try clear hi); (try clear ho0)))
  go_ret2
  exact ⟨re, skB HB.out⟩
end Go.Proofs.Ytagdkmcgepidoaa.P
/- F61 -/
namespace Go.Proofs.Ytagdkmcgepidoaa.P
open Go.RowKit Go.Proofs.YtagdkmcgepidoaaW.PrintWords Go.Proofs.YtagdkmcgepidoaaW.PrintLast Go.Proofs.YtagdkmcgepidoaaW.PrintMore
attribute [local go_sem] max2_int min2_int max_two min_two max_three min_three max_four min_four   -- for this text's walks alone
set_option linter.unusedVariables false
set_option linter.unusedSimpArgs false
mutual
def larchref05_Orders.l0 : Nat → List (S76) → List (S76) → Int → Option (Int × Int)
 | 0, _, _, _ => none
 | k + 1, x4, x6, x7 => if x7 < (x4.length : Int) then (if 0 ≤ x7 then (if ((J76 x4 x7).f4) = (-1) then (larchref05_Orders.l0 k x4 x6 (wrap64 (x7 + 1))) else (if x6.length < 1353245080339 then (larchref05_Orders.l0 k x4 (x6 ++ [(⟨(J76 x4 x7).f0, (⟨(J76 x4 x7).f1.f0, (J76 x4 x7).f1.f1, (J76 x4 x7).f1.f2, (J76 x4 x7).f1.f3⟩ : S33), (⟨(J76 x4 x7).f2.f0, (J76 x4 x7).f2.f1, (J76 x4 x7).f2.f2, (J76 x4 x7).f2.f3⟩ : S36), (J76 x4 x7).f3, (J76 x4 x7).f4⟩ : S76)]) (wrap64 (x7 + 1))) else (none))) else (none)) else (if (x6.length : Int) > 16 then (some (0, 2)) else (if 0 ≤ (shl .i64 1 (x6.length : Int)) then (if (shl .i64 1 (x6.length : Int) : Int).toNat ≤ 35184372088832 then ((some (List.replicate (shl .i64 1 (x6.length : Int) : Int).toNat 0 : List Int)).bind fun y467 => (if 0 < (y467.length : Int) then (larchref05_Orders.l1 k x6 (x6.length : Int) (y467.set (0 : Int).toNat 1) 0) else (none))) else (none)) else (none)))
def larchref05_Orders.l1 : Nat → List (S76) → Int → List Int → Int → Option (Int × Int)
 | 0, _, _, _, _ => none
 | k + 1, x6, x8, x9, x10 => if 0 ≤ x8 then (if x10 < (shl .i64 1 x8) then (if 0 ≤ x10 then (if x10 < (x9.length : Int) then (if (rd x9 x10) = 0 then (larchref05_Orders.l1 k x6 x8 x9 (wrap64 (x10 + 1))) else (larchref05_Orders.l2 k x6 x8 x9 x10 0)) else (none)) else (none)) else (if 0 ≤ (wrap64 ((shl .i64 1 x8) - 1)) then (if (wrap64 ((shl .i64 1 x8) - 1)) < (x9.length : Int) then (some (rd x9 (wrap64 ((shl .i64 1 x8) - 1)), 0)) else (none)) else (none))) else (none)
def larchref05_Orders.l2 : Nat → List (S76) → Int → List Int → Int → Int → Option (Int × Int)
 | 0, _, _, _, _, _ => none
 | k + 1, x6, x8, x9, x10, x11 => if x11 < x8 then (if 0 ≤ x11 then (if (Go.bits .and .i64 (shr .i64 x10 x11) 1) = 1 then (larchref05_Orders.l2 k x6 x8 x9 x10 (wrap64 (x11 + 1))) else (larchref05_Orders.l3 k x6 x8 x9 x10 x11 true 0)) else (none)) else (larchref05_Orders.l1 k x6 x8 x9 (wrap64 (x10 + 1)))
def larchref05_Orders.l3 : Nat → List (S76) → Int → List Int → Int → Int → Bool → Int → Option (Int × Int)
 | 0, _, _, _, _, _, _, _ => none
 | k + 1, x6, x8, x9, x10, x11, x12, x13 => if x13 < x8 then (if x13 = x11 then (larchref05_Orders.l3 k x6 x8 x9 x10 x11 x12 (wrap64 (x13 + 1))) else (if 0 ≤ x13 then (if (Go.bits .and .i64 (shr .i64 x10 x13) 1) = 0 then ((larchref05_before.f x6 x13 x11).bind fun t473 => (if t473 = true then (larchref05_Orders.l3 k x6 x8 x9 x10 x11 false (wrap64 (x13 + 1))) else (larchref05_Orders.l3 k x6 x8 x9 x10 x11 x12 (wrap64 (x13 + 1))))) else (larchref05_Orders.l3 k x6 x8 x9 x10 x11 x12 (wrap64 (x13 + 1)))) else (none))) else (if x12 = true then (if 0 ≤ x11 then (if 0 ≤ (Go.bits .or .i64 x10 (shl .i64 1 x11)) then (if (Go.bits .or .i64 x10 (shl .i64 1 x11)) < (x9.length : Int) then (if 0 ≤ x10 then (if x10 < (x9.length : Int) then (larchref05_Orders.l2 k x6 x8 (x9.set ((Go.bits .or .i64 x10 (shl .i64 1 x11)) : Int).toNat (wrap64 ((rd x9 (Go.bits .or .i64 x10 (shl .i64 1 x11))) + (rd x9 x10)))) x10 (wrap64 (x11 + 1))) else (none)) else (none)) else (none)) else (none)) else (none)) else (larchref05_Orders.l2 k x6 x8 x9 x10 (wrap64 (x11 + 1))))
end
def larchref05_Orders.f (k : Nat) (l0 : List (S67)) : Option (Int × Int) := (larchref05_Calls.f k l0).bind fun bt458 => (if bt458.2 = 0 then (larchref05_Orders.l0 k bt458.1 ([] : List (S76)) 0) else (some (0, bt458.2)))
def larchref05_Orders.T30 : Bool × List (List Nat × List Nat) := (true, [([], []), ([], []), ([], []), ([2], [2]), ([1, 3], [1, 3]), ([], []), ([], []), ([], []), ([7], [7]), ([6, 8], [6, 8]), ([5, 9], [5, 9]), ([10], [10]), ([], []), ([], []), ([12, 13], [12, 13]), ([14], [14]), ([11, 15], [11, 15]), ([0, 4, 0, 1, 2, 3, 4, 5, 6, 7, 8, 9, 10, 11, 12, 13, 14, 15, 16], [0, 4]), ([17, 16, 0, 1, 2, 3, 4, 5, 6, 7, 8, 9, 10, 11, 12, 13, 14, 15, 16], [16, 17])])
def larchref05_Orders.B30 : List Nat := [0, 0, 0, 4, 14, 0, 0, 0, 128, 448, 992, 2016, 0, 0, 12288, 28672, 65504, 131071, 262143]
theorem larchref05_Orders.tab30 : rtab .any (opsOf Try.f18 30) = larchref05_Orders.T30 := by kernel_rfl
theorem larchref05_Orders.bits30 : waitsOk larchref05_Orders.T30.2 larchref05_Orders.B30 = true := by kernel_rfl
set_option maxHeartbeats 8000000 in
set_option maxRecDepth 100000 in
theorem larchref05_Orders.calls (k : Nat) (A0 : Option Addr) (c0 : Nat) (l0 : List (S67)) (r1 : Int) (r2 : Int) (w : World) (hr0 : Kd.C k67 w A0 l0.length l0) (hc0 : l0.length ≤ c0) (h : larchref05_Orders.f k l0 = some (r1, r2)) :
  Calls Try.prog 18 #[.slice A0 l0.length c0] w fun e w' => e = .returned (.tuple #[.int .i64 r1, .int .i64 r2]) ∧ Below w.heap.size w w' := by
 have hu76 := Try.underlying76
 have HR0 := asd hr0
 have HC0 := asd hc0
 clear hr0 hc0
 have HB := asd (Below.refl w.heap.size w)
 have H : ((larchref05_Calls.f k l0).bind fun bt458 => (if bt458.2 = 0 then (larchref05_Orders.l0 k bt458.1 ([] : List (S76)) 0) else (some (0, bt458.2)))) = some (r1, r2) := h
 clear h
 replace H := Option.bind_eq_some_iff.mp H
 obtain ⟨⟨t458, t459⟩, A20, H⟩ := H
 replace H : (if t459 = 0 then (larchref05_Orders.l0 k t458 ([] : List (S76)) 0) else (some (0, t459))) = some (r1, r2) := H
 have A2 := asd A20
 clear A20
 by_cases c3 : t459 = 0
 ·
  rw [if_pos c3] at H
  have c3b0 : (t459 == 0) = true := beq_iff_eq.mpr c3
  have c3b1 : (t459 != 0) = false := bne_eq_false_iff_eq.mpr c3
  clear c3
  have H' := asd H
  clear H
  go_enter Try.func18, Try.ntmps18
  go_wp2_with (first | ((with_reducible refine gate_callee (f := 38) rfl ?_); refine goesL_ (some 16) rfl rfl Try.func38 (by kernel_rfl) rfl #[.slice A0 l0.length c0] rfl ags ?_; (with_reducible refine (larchref05_Calls.calls k _ _ l0 t458 t459 _ ?side1 ?side2 A2.out).mono ?_); (case side1 => exact skC HR0.out); (case side2 => exact HC0.out); rintro e w4 ⟨v460, rfl, ho0, hb⟩; refine ⟨_, rfl, ?_⟩; have n0_ := asd (Kd.N_lower (Kd.N_mono (ok' := fun k_ => True) (Kd.S_N (Kd.S_bound ho0)) (fun k_ hk_ => trivial)) (below_size (skB HB.out))); have n1_ := asd (below_step (skB HB.out) hb); clear HB; have HO461 := n0_; have HB := n1_; clear n0_ n1_; (try clear hb); (try clear hb2); (try clear hk); (try clear hi); (try clear ho0)))
  go_loopg [6, 7] k (fun kq v6 v7 w' => ∃ (x6_1 : List (S76)) (x7_1 : Int), v7 = .int .i64 x7_1 ∧ Aside0 (larchref05_Orders.l0 kq t458 x6_1 x7_1 = some (r1, r2)) ∧ Aside0 (kq ≤ k) ∧ Aside0 (Kd.N k76 76 w' w.heap.size (fun k_ => some k_ ≠ (v6 : Value).ownBlock) v460 t458) ∧ Aside0 (Kd.N k76 76 w' w.heap.size (fun k_ => some k_ ≠ (v460 : Value).ownBlock) v6 x6_1) ∧ Aside0 (Below w.heap.size w w'))
  case atStart => exact ⟨(([] : List (S76))), (0), rs, H', ⟨Nat.le_refl _⟩, ⟨by (with_reducible repeat (first | apply Kd.N_alloc | apply Kd.N_drewN | apply Kd.N_drew)); exact Kd.N_mono HO461.out (fun _ hk => (by simp [Value.ownBlock]))⟩, ⟨by first | exact Kd.S_nil _ _ _ _ _ | exact Kd.N_nil _ _ _ _ _ | exact Kd.V_nil _ _ _ _ _ | exact Kd.Q_nil _ _ _ _ _ | exact Kd.R_nil _ _ _ _ _⟩, ⟨skB HB.out⟩⟩
  case round =>
   clear H'
   try clear c1
   try clear p2
   try clear c3
   try clear c3b0
   try clear c3b1
   obtain ⟨x6_1, x7_1, rfl, HA, HK1, HO_4, HO_6, HB⟩ := hrel
   cases gk with
   | zero => exact absurd HA.out (by simp [larchref05_Orders.l0])
   | succ k1 =>
    have H := HA.out
    clear HA
    simp only [larchref05_Orders.l0] at H
    by_cases c5 : x7_1 < (t458.length : Int)
    ·
     rw [if_pos c5] at H
     have c5b0 : decide (x7_1 < (t458.length : Int)) = true := decide_eq_true c5
     clear c5
     by_cases c6 : 0 ≤ x7_1
     ·
      rw [if_pos c6] at H
      have c6b0 : decide (0 ≤ x7_1) = true := decide_eq_true c6
      clear c6
      by_cases c7 : ((J76 t458 x7_1).f4) = (-1)
      ·
       rw [if_pos c7] at H
       have c7b0 : (((J76 t458 x7_1).f4) == (-1)) = true := beq_iff_eq.mpr c7
       have c7b1 : (((J76 t458 x7_1).f4) != (-1)) = false := bne_eq_false_iff_eq.mpr c7
       clear c7
       have H' := asd H
       clear H
       obtain ⟨Ao8, co8, eo8⟩ := Kd.N_slice HO_4.out
       subst eo8
       have p462 : 0 ≤ (x7_1 : Int) := dt
       have q462 : x7_1 < (t458.length : Int) := dt
       obtain ⟨ad462, A462_8, c462_8, e462, hx462_0, hx462_1, hx462_2, hx462_3, hx462_4, hx462_5, hx462_6, hx462_7, hx462_8, hx462_9, hx462_10, hl462_8, hi462_8⟩ := at_T76 (Kd.N_reads' HO_4.out).2.2 x7_1 p462 q462
       cases e462
       obtain ⟨ce462, hce462, hMe462, hcc462⟩ := Kd.N_get HO_4.out z76 x7_1 p462 (by first | exact q462 | exact dt | (have e_ := (Kd.N_reads' HO_4.out).1; omega))
       obtain ⟨ua462_8, uc462_8, rfl, ul462_8, ge462_8⟩ := k76_openF hMe462
       have hv462_8 := hcc462 8 _ rfl
       rw [add_field _ _ 8 (by omega)] at hv462_8
       replace hv462_8 := Option.some.inj (hv462_8.symm.trans hx462_8)
       injection hv462_8 with hva_ hvn_ hvc_
       rw [hva_] at ge462_8
       rw [hvc_] at ul462_8
       have HL462_8 := asd (show Kd.V k70 70 _ w.heap.size _ _ ((J76 t458 x7_1).f2.f3) from Kd.V_mk ul462_8 ge462_8)
       clear hva_ hvn_ hvc_ ge462_8 ul462_8
       clear hcc462 hce462
       have HR462_8 := asd hi462_8
       have HC462_8 := asd hl462_8
       clear hi462_8 hl462_8
       replace p462 := eq_true p462
       replace q462 := eq_true q462
       go_wp2
       go_roundg k1
       case measure => have := HK1.out; omega
       case rel => exact ⟨(x6_1), (wrap64 (x7_1 + 1)), rs, H', ⟨by have := HK1.out; omega⟩, ⟨by (with_reducible repeat (first | apply Kd.N_alloc | apply Kd.N_drewN | apply Kd.N_drew)); exact HO_4.out⟩, ⟨by (with_reducible repeat (first | apply Kd.N_alloc | apply Kd.N_drewN | apply Kd.N_drew)); exact HO_6.out⟩, ⟨skB HB.out⟩⟩
      ·
       rw [if_neg c7] at H
       have c7b0 : (((J76 t458 x7_1).f4) == (-1)) = false := beq_eq_false_iff_ne.mpr c7
       have c7b1 : (((J76 t458 x7_1).f4) != (-1)) = true := bne_iff_ne.mpr c7
       by_cases c9 : x6_1.length < 1353245080339
       ·
        rw [if_pos c9] at H
        have LMc9 := asd c9
        clear c9
        obtain ⟨y464, hy464⟩ : ∃ y_ : List (S76), y_ = (x6_1 ++ [(⟨(J76 t458 x7_1).f0, (⟨(J76 t458 x7_1).f1.f0, (J76 t458 x7_1).f1.f1, (J76 t458 x7_1).f1.f2, (J76 t458 x7_1).f1.f3⟩ : S33), (⟨(J76 t458 x7_1).f2.f0, (J76 t458 x7_1).f2.f1, (J76 t458 x7_1).f2.f2, (J76 t458 x7_1).f2.f3⟩ : S36), (J76 t458 x7_1).f3, (J76 t458 x7_1).f4⟩ : S76)]) := ⟨_, rfl⟩
        replace H : (larchref05_Orders.l0 k1 t458 y464 (wrap64 (x7_1 + 1))) = some (r1, r2) := by first | (rw [hy464]; with_reducible exact H) | (have H2_ := (Option.bind_some _ _).symm.trans H; rw [hy464]; with_reducible exact H2_) | (have H2_ := (Option.bind_some _ _).symm.trans H; with_reducible exact H2_) | with_reducible exact H | (rw [hy464]; exact H) | exact H
        have Ny464 := asd hy464
        clear hy464
        have H' := asd H
        clear H
        obtain ⟨Ao10, co10, eo10⟩ := Kd.N_slice HO_4.out
        subst eo10
        have p462 : 0 ≤ (x7_1 : Int) := dt
        have q462 : x7_1 < (t458.length : Int) := dt
        obtain ⟨ad462, A462_8, c462_8, e462, hx462_0, hx462_1, hx462_2, hx462_3, hx462_4, hx462_5, hx462_6, hx462_7, hx462_8, hx462_9, hx462_10, hl462_8, hi462_8⟩ := at_T76 (Kd.N_reads' HO_4.out).2.2 x7_1 p462 q462
        cases e462
        obtain ⟨ce462, hce462, hMe462, hcc462⟩ := Kd.N_get HO_4.out z76 x7_1 p462 (by first | exact q462 | exact dt | (have e_ := (Kd.N_reads' HO_4.out).1; omega))
        obtain ⟨ua462_8, uc462_8, rfl, ul462_8, ge462_8⟩ := k76_openF hMe462
        have hv462_8 := hcc462 8 _ rfl
        rw [add_field _ _ 8 (by omega)] at hv462_8
        replace hv462_8 := Option.some.inj (hv462_8.symm.trans hx462_8)
        injection hv462_8 with hva_ hvn_ hvc_
        rw [hva_] at ge462_8
        rw [hvc_] at ul462_8
        have HL462_8 := asd (show Kd.V k70 70 _ w.heap.size _ _ ((J76 t458 x7_1).f2.f3) from Kd.V_mk ul462_8 ge462_8)
        clear hva_ hvn_ hvc_ ge462_8 ul462_8
        clear hcc462 hce462
        have HR462_8 := asd hi462_8
        have HC462_8 := asd hl462_8
        clear hi462_8 hl462_8
        replace p462 := eq_true p462
        replace q462 := eq_true q462
        have p463 : 0 ≤ (x7_1 : Int) := dt
        have q463 : x7_1 < (t458.length : Int) := dt
        obtain ⟨ad463, A463_8, c463_8, e463, hx463_0, hx463_1, hx463_2, hx463_3, hx463_4, hx463_5, hx463_6, hx463_7, hx463_8, hx463_9, hx463_10, hl463_8, hi463_8⟩ := at_T76 (Kd.N_reads' HO_4.out).2.2 x7_1 p463 q463
        obtain rfl : ad462 = ad463 := (by injection e463)
        obtain ⟨ce463, hce463, hMe463, hcc463⟩ := Kd.N_get HO_4.out z76 x7_1 p463 (by first | exact q463 | exact dt | (have e_ := (Kd.N_reads' HO_4.out).1; omega))
        obtain ⟨ua463_8, uc463_8, rfl, ul463_8, ge463_8⟩ := k76_openF hMe463
        have hv463_8 := hcc463 8 _ rfl
        rw [add_field _ _ 8 (by omega)] at hv463_8
        replace hv463_8 := Option.some.inj (hv463_8.symm.trans hx463_8)
        injection hv463_8 with hva_ hvn_ hvc_
        rw [hva_] at ge463_8
        rw [hvc_] at ul463_8
        have HL463_8 := asd (show Kd.V k70 70 _ w.heap.size _ _ ((J76 t458 x7_1).f2.f3) from Kd.V_mk ul463_8 ge463_8)
        clear hva_ hvn_ hvc_ ge463_8 ul463_8
        clear hcc463 hce463
        have HR463_8 := asd hi463_8
        have HC463_8 := asd hl463_8
        clear hi463_8 hl463_8
        replace p463 := eq_true p463
        replace q463 := eq_true q463
        have ea_ := Option.some.inj (hx462_8.symm.trans hx463_8)
        injection ea_ with ea_ en_ ec_
        subst ea_
        subst ec_
        clear en_
        go_wp2_with (first | ((with_reducible refine gate_builtin (b := .append) (xs := #[.tmp 34, .tmp 39]) rfl ?_); at_builtin; refine Kd.N_append k76 (w0 := w) w.heap.size rfl (.tmp 34) (.tmp 39) 56 76 (.agg #[(.int .i64 0), (.int .i64 0), (.int .i64 0), (.int .i64 0), (.int .i64 0), (.bool false), (.int .i64 0), (.int .i64 0), (.slice none 0 0), (.int .i64 0), (.int .i64 0)]) 104 rfl Try.underlying56 info76 rfl (by decide) (by omega) u6 x6_1 (⟨(J76 t458 x7_1).f0, (⟨(J76 t458 x7_1).f1.f0, (J76 t458 x7_1).f1.f1, (J76 t458 x7_1).f1.f2, (J76 t458 x7_1).f1.f3⟩ : S33), (⟨(J76 t458 x7_1).f2.f0, (J76 t458 x7_1).f2.f1, (J76 t458 x7_1).f2.f2, (J76 t458 x7_1).f2.f3⟩ : S36), (J76 t458 x7_1).f3, (J76 t458 x7_1).f4⟩ : S76) [.int .i64 ((J76 t458 x7_1).f0), .int .i64 ((J76 t458 x7_1).f1.f0), .int .i64 ((J76 t458 x7_1).f1.f1), .int .i64 ((J76 t458 x7_1).f1.f2), .int .i64 ((J76 t458 x7_1).f1.f3), .bool ((J76 t458 x7_1).f2.f0), .int .i64 ((J76 t458 x7_1).f2.f1), .int .i64 ((J76 t458 x7_1).f2.f2), .slice A462_8 ((J76 t458 x7_1).f2.f3).length c462_8, .int .i64 ((J76 t458 x7_1).f3), .int .i64 ((J76 t458 x7_1).f4)] (fun k_ => some k_ ≠ (.slice (some ad462) t458.length co10 : Value).ownBlock) (fun k_ => ((fun k_ => some k_ ≠ (.slice (some ad462) t458.length co10 : Value).ownBlock)) k_ ∧ some k_ ≠ (u6 : Value).ownBlock) rfl rfl ?aP (fun _ hk => hk) ?aF ?aO ?aB ?aS ?aL ?_; (case aP => exact (k76_mkF _ _ (⟨(J76 t458 x7_1).f0, (⟨(J76 t458 x7_1).f1.f0, (J76 t458 x7_1).f1.f1, (J76 t458 x7_1).f1.f2, (J76 t458 x7_1).f1.f3⟩ : S33), (⟨(J76 t458 x7_1).f2.f0, (J76 t458 x7_1).f2.f1, (J76 t458 x7_1).f2.f2, (J76 t458 x7_1).f2.f3⟩ : S36), (J76 t458 x7_1).f3, (J76 t458 x7_1).f4⟩ : S76) (Kd.V_reads' (Kd.V_mono (ok' := (fun k_ => ((fun k_ => some k_ ≠ (.slice (some ad462) t458.length co10 : Value).ownBlock)) k_ ∧ some k_ ≠ (u6 : Value).ownBlock)) (HL463_8.out) (fun k_ hk => ⟨hk.2, hk.1⟩))).2.1 (Kd.V_F (Kd.V_mono (ok' := (fun k_ => ((fun k_ => some k_ ≠ (.slice (some ad462) t458.length co10 : Value).ownBlock)) k_ ∧ some k_ ≠ (u6 : Value).ownBlock)) (HL463_8.out) (fun k_ hk => ⟨hk.2, hk.1⟩))))); (case aB => exact (skB HB.out)); (case aF => exact (fun k_ hk => Kd.fresh' (Kd.N_lt (by (with_reducible repeat (first | apply Kd.N_alloc | apply Kd.N_drewN | apply Kd.N_drew)); exact HO_4.out)) k_ hk)); (case aO => exact (by (with_reducible repeat (first | apply Kd.N_alloc | apply Kd.N_drewN | apply Kd.N_drew)); exact HO_6.out)); (case aS => exact (below_size (skB HB.out))); (case aL => have := LMc9.out; omega); intro v465 w11 ho hb hg hat; rw [← Ny464.out] at ho; have n0_ := asd (Kd.N_afterv (ok := (fun _ => True)) (by (with_reducible repeat (first | apply Kd.N_alloc | apply Kd.N_drewN | apply Kd.N_drew)); exact Kd.N_mono HO_4.out (fun _ hk => ⟨trivial, hk⟩)) hg hat); have n1_ := asd (Kd.V_afterv (ok := (fun k_ => some k_ ≠ (.slice (some ad462) t458.length co10 : Value).ownBlock)) (by (with_reducible repeat (first | apply Kd.V_alloc | apply Kd.V_drewN | apply Kd.V_drew)); exact Kd.V_mono HL462_8.out (fun _ hk => ⟨hk.2, hk.1⟩)) hg hat); have n2_ := asd (Kd.V_afterv (ok := (fun k_ => some k_ ≠ (.slice (some ad462) t458.length co10 : Value).ownBlock)) (by (with_reducible repeat (first | apply Kd.V_alloc | apply Kd.V_drewN | apply Kd.V_drew)); exact Kd.V_mono HL463_8.out (fun _ hk => ⟨hk.2, hk.1⟩)) hg hat); have n3_ := asd (hb); have n4_ := asd (ho); clear HO_4; clear HL462_8; clear HL463_8; clear HB; clear HO_6; have HO_4 := n0_; have HL462_8 := n1_; have HL463_8 := n2_; have HB := n3_; have HO466 := n4_; clear n0_ n1_ n2_ n3_ n4_; clear ho hb hg hat))
        go_roundg k1
        case measure => have := HK1.out; omega
        case rel => exact ⟨(y464), (wrap64 (x7_1 + 1)), rs, H', ⟨by have := HK1.out; omega⟩, ⟨by (with_reducible repeat (first | apply Kd.N_alloc | apply Kd.N_drewN | apply Kd.N_drew)); exact Kd.N_mono HO_4.out (fun _ hk => hk.2)⟩, ⟨by (with_reducible repeat (first | apply Kd.N_alloc | apply Kd.N_drewN | apply Kd.N_drew)); exact HO466.out⟩, ⟨skB HB.out⟩⟩
       ·
        rw [if_neg c9] at H
        exact absurd H (by simp)
     ·
      rw [if_neg c6] at H
      exact absurd H (by simp)
    ·
     rw [if_neg c5] at H
     have c5b0 : decide (x7_1 < (t458.length : Int)) = false := decide_eq_false c5
     clear c5
     by_cases c12 : (x6_1.length : Int) > 16
     ·
      rw [if_pos c12] at H
      have c12b0 : decide (16 < (x6_1.length : Int)) = true := decide_eq_true c12
      have c12b1 : decide (16 < x6_1.length) = true := decide_eq_true (by omega)
      clear c12
      simp only [Option.some.injEq, Prod.mk.injEq] at H
      obtain ⟨rfl, rfl⟩ := H
      obtain ⟨Ao13, co13, eo13⟩ := Kd.N_slice HO_4.out
      subst eo13
      obtain ⟨Ao14, co14, eo14⟩ := Kd.N_slice HO_6.out
      subst eo14
      go_wp2
      go_ret2
      exact ⟨re, skB HB.out⟩
     ·
      rw [if_neg c12] at H
      have c12b0 : decide (16 < (x6_1.length : Int)) = false := decide_eq_false c12
      have c12b1 : decide (16 < x6_1.length) = false := decide_eq_false (by omega)
      clear c12
      obtain ⟨ji15, hji15⟩ : ∃ j_ : Int, (shl .i64 1 (x6_1.length : Int)) = j_ := ⟨_, rfl⟩
      replace H : (if 0 ≤ (ji15) then (if (ji15 : Int).toNat ≤ 35184372088832 then ((some (List.replicate (ji15 : Int).toNat 0 : List Int)).bind fun y467 => (if 0 < (y467.length : Int) then (larchref05_Orders.l1 k1 x6_1 (x6_1.length : Int) (y467.set (0 : Int).toNat 1) 0) else (none))) else (none)) else (none)) = some (r1, r2) := by first | (rw [hji15] at H; exact H) | (simp only [hji15] at H ⊢; exact H)
      have hji15_ : (IntKind.i64.wrap (1 * 2 ^ min (x6_1.length : Int).toNat 64)) = ji15 := hji15
      have hji15z : (x6_1.length : Int) ≤ 64 → (IntKind.i64.wrap (1 * 2 ^ (x6_1.length : Int).toNat)) = ji15 := shl_small hji15
      have hji15p : (IntKind.i64.wrap (1 * 2 ^ min x6_1.length 64)) = ji15 := hji15_
      have hji15q : (x6_1.length : Int) ≤ 64 → (IntKind.i64.wrap (1 * 2 ^ x6_1.length)) = ji15 := hji15z
      have hji15r : (IntKind.i64.wrap (2 ^ min x6_1.length 64)) = ji15 := by have h_ := hji15p; rw [Int.one_mul] at h_; exact h_
      have hji15s : (x6_1.length : Int) ≤ 64 → (IntKind.i64.wrap (2 ^ x6_1.length)) = ji15 := fun hle_ => by have h_ := hji15q hle_; rw [Int.one_mul] at h_; exact h_
      have hji15u : (IntKind.i64.wrap (2 ^ min (x6_1.length : Int).toNat 64)) = ji15 := by have h_ := hji15_; rw [Int.one_mul] at h_; exact h_
      have hji15v : (x6_1.length : Int) ≤ 64 → (IntKind.i64.wrap (2 ^ (x6_1.length : Int).toNat)) = ji15 := fun hle_ => by have h_ := hji15z hle_; rw [Int.one_mul] at h_; exact h_
      have hji15y : (wrap64 (1 * 2 ^ min (x6_1.length : Int).toNat 64)) = ji15 := (i64_w _).symm.trans hji15_
      have hji15x : (x6_1.length : Int) ≤ 64 → (wrap64 (1 * 2 ^ (x6_1.length : Int).toNat)) = ji15 := fun h_ => (i64_w _).symm.trans (hji15z h_)
      by_cases c16 : 0 ≤ (ji15)
      ·
       rw [if_pos c16] at H
       have c16b0 := eq_true c16
       have c16b1 : decide (0 ≤ (ji15)) = true := decide_eq_true c16
       clear c16
       by_cases c17 : (ji15 : Int).toNat ≤ 35184372088832
       ·
        rw [if_pos c17] at H
        have c17b0 := eq_true c17
        have c17b1 : decide ((ji15 : Int).toNat ≤ 35184372088832) = true := decide_eq_true c17
        clear c17
        obtain ⟨y467, hy467⟩ : ∃ y_ : List Int, y_ = (List.replicate (ji15 : Int).toNat 0) := ⟨_, rfl⟩
        replace H : (if 0 < (y467.length : Int) then (larchref05_Orders.l1 k1 x6_1 (x6_1.length : Int) (y467.set (0 : Int).toNat 1) 0) else (none)) = some (r1, r2) := by first | (rw [hy467]; with_reducible exact H) | (have H2_ := (Option.bind_some _ _).symm.trans H; rw [hy467]; with_reducible exact H2_) | (have H2_ := (Option.bind_some _ _).symm.trans H; with_reducible exact H2_) | with_reducible exact H | (rw [hy467]; exact H) | exact H
        have Ny467 := asd hy467
        clear hy467
        by_cases c18 : 0 < (y467.length : Int)
        ·
         rw [if_pos c18] at H
         have c18b0 : decide (0 < (y467.length : Int)) = true := decide_eq_true c18
         have c18b1 : decide (0 < y467.length) = true := decide_eq_true (by omega)
         clear c18
         obtain ⟨y470, hy470⟩ : ∃ y_ : List Int, y_ = (y467.set (0 : Int).toNat 1) := ⟨_, rfl⟩
         replace H : (larchref05_Orders.l1 k1 x6_1 (x6_1.length : Int) y470 0) = some (r1, r2) := by first | (rw [hy470]; with_reducible exact H) | (have H2_ := (Option.bind_some _ _).symm.trans H; rw [hy470]; with_reducible exact H2_) | (have H2_ := (Option.bind_some _ _).symm.trans H; with_reducible exact H2_) | with_reducible exact H | (rw [hy470]; exact H) | exact H
         have Ny470 := asd hy470
         clear hy470
         have H' := asd H
         clear H
         obtain ⟨Ao20, co20, eo20⟩ := Kd.N_slice HO_4.out
         subst eo20
         obtain ⟨Ao21, co21, eo21⟩ := Kd.N_slice HO_6.out
         subst eo21
         go_wp2_with (first | ((with_reducible refine gate_dst (N := 48) rfl ?_); refine Kd.R_make (Kd.int .i64) _ 3 rfl (N := 48) rfl 41 _ _ rfl ji15 rfl rfl Try.underlying41 (.int .i64 0) 8 info3 rfl (by decide) (by omega) 0 (ok := fun _ => True) (okp := fun _ => True) rfl (fun _ hk => hk) trivial dt (Nat.le_trans (Nat.mul_le_mul_right _ (dt : ji15.toNat ≤ 35184372088832)) (by omega)) (Below.refl _ _) (Nat.le_refl _) ?_; intro v468 w22 ho23 hb hg_ hnew_; clear hg_ hnew_; (first | rw [← Ny467.out] at ho23 | (simp only [Int.reduceToNat] at ho23; rw [← Ny467.out] at ho23)); have n0_ := asd (Kd.N_elder' (by (with_reducible repeat (first | apply Kd.N_alloc | apply Kd.N_drewN | apply Kd.N_drew)); exact HO_4.out) (Kd.R_base ho23) hb); have n1_ := asd (Kd.N_elder' (by (with_reducible repeat (first | apply Kd.N_alloc | apply Kd.N_drewN | apply Kd.N_drew)); exact HO_6.out) (Kd.R_base ho23) hb); have n2_ := asd (Kd.R_lower ho23 (below_size (skB HB.out))); have n3_ := asd (below_step (skB HB.out) hb); clear HO_4; clear HO_6; clear HB; have HO_4 := n0_; have HO_6 := n1_; have HO469 := n2_; have HB := n3_; clear n0_ n1_ n2_ n3_; clear hb ho23; have p19 : 0 ≤ (0 : Int) := (by omega); have q19 : (0 : Int) < ((y467.length : Int) : Int) := dt; have qi19 : (0 < y467.length) = True := eq_true (by omega); obtain ⟨go19, co19, eo19, gb19, gl19, cl19, HG19⟩ := Kd.R_form HO469.out (by omega); (first | cases eo19 | (injection eo19 with ea_ en_ ec_; (first | subst ea_ | (injection ea_ with ea_; subst ea_)); subst ec_; clear en_)); have GB19 := asd gb19; have GG19 := asd HG19; clear gb19 gl19 HG19; obtain ⟨hx19_0, hf19_0⟩ := Kd.R_celln 0 HO469.out (0 : Int) p19 q19; (try rw [show ((0 : Int)).toNat = 0 from rfl] at hx19_0); (try simp only [Nat.reduceMul, Nat.zero_mul, Nat.zero_add, Nat.reduceAdd] at hx19_0); (try rw [show ((0 : Int)).toNat = 0 from rfl] at hf19_0); (try simp only [Nat.reduceMul, Nat.zero_mul, Nat.zero_add, Nat.reduceAdd] at hf19_0); replace p19 := eq_true p19; replace q19 := eq_true q19; obtain ⟨hy24_, hz24_⟩ := Kd.R_celln 0 HO469.out (0 : Int) (by omega) dt; (try simp only [Int.reduceToNat, Int.toNat_zero, Int.toNat_ofNat, Nat.reduceMul, Nat.zero_mul, Nat.zero_add] at hy24_ hz24_); (try rw [show ((0 : Int)).toNat = 0 from rfl] at hy24_); (try rw [show ((0 : Int)).toNat = 0 from rfl] at hz24_); have HP24 := Kd.R_putg HO469.out (0 : Int) 1) | ((with_reducible refine gate_store (t := 3) (p := 50) rfl ?_); refine store_event (t := 3) (p := 50) (v := ?vo_w25) (w1 := (w22.setCell ⟨go19, (0 : Int).toNat, none⟩ (.int .i64 1))) ?hg ?ho ?hn ?hr ?_; (case ho => rfl); (case hg => rfl); (case hn => rfl); (case hr => first | (go_simp; done) | (go_simp; rfl)); intro w25 hw; have hg : w22.grownBy w25 (some go19) := (by rw [hw]; exact HP24.2); have hp_ : Kd.R (Kd.int .i64) 3 w25 w.heap.size (fun _ => True) (.slice (some ⟨go19, 0, none⟩) y467.length co19) y470 := (by rw [hw, Ny470.out]; exact HP24.1); clear HP24; have n0_ := asd (Kd.N_afterv (v := (.slice (some ⟨go19, 0, none⟩) y467.length co19)) (v1 := (.slice (some ⟨go19, 0, none⟩) y467.length co19)) (ok := (fun k_ => some k_ ≠ (.slice Ao21 x6_1.length co21 : Value).ownBlock)) (by (with_reducible repeat (first | apply Kd.N_alloc | apply Kd.N_drewN | apply Kd.N_drew)); exact HO_4.out) hg (.inl rfl)); have n1_ := asd (Kd.N_afterv (v := (.slice (some ⟨go19, 0, none⟩) y467.length co19)) (v1 := (.slice (some ⟨go19, 0, none⟩) y467.length co19)) (ok := (fun k_ => some k_ ≠ (.slice Ao20 t458.length co20 : Value).ownBlock)) (by (with_reducible repeat (first | apply Kd.N_alloc | apply Kd.N_drewN | apply Kd.N_drew)); exact HO_6.out) hg (.inl rfl)); have n2_ := asd (hp_); have n3_ := asd ((by rw [hw]; exact below_set (HB.out) GB19.out : Below w.heap.size w w25)); clear HO_4; clear HO_6; clear HO469; clear HB; have HO_4 := n0_; have HO_6 := n1_; have HO469 := n2_; have HB := n3_; clear n0_ n1_ n2_ n3_; clear hg hw hp_))
         go_loopg [10] k1 (fun kq v10 w' => ∃ (x9_2 : List Int) (x10_2 : Int), v10 = .int .i64 x10_2 ∧ Aside0 (larchref05_Orders.l1 kq x6_1 (x6_1.length : Int) x9_2 x10_2 = some (r1, r2)) ∧ Aside0 (kq ≤ k1) ∧ Aside0 (Kd.N k76 76 w' w.heap.size (fun k_ => some k_ ≠ ((.slice (some ⟨go19, 0, none⟩) y467.length co19) : Value).ownBlock) (.slice Ao21 x6_1.length co21) x6_1) ∧ Aside0 (Kd.R (Kd.int .i64) 3 w' w.heap.size (fun _ => True) (.slice (some ⟨go19, 0, none⟩) y467.length co19) x9_2) ∧ Aside0 (Below w.heap.size w w'))
         case atStart => exact ⟨(y470), (0), rs, H', ⟨Nat.le_refl _⟩, ⟨by (with_reducible repeat (first | apply Kd.N_alloc | apply Kd.N_drewN | apply Kd.N_drew)); exact Kd.N_mono HO_6.out (fun _ hk => hk.2)⟩, ⟨skR HO469.out⟩, ⟨skB HB.out⟩⟩
         case round =>
          clear H'
          try clear c1
          try clear p1
          try clear q1
          try clear hx1
          try clear qi1
          try clear hf1
          try clear p2
          try clear c3
          try clear c3b0
          try clear c3b1
          try clear c4
          try clear p4
          try clear q4
          try clear hx4
          try clear c5
          try clear c5b0
          try clear c6
          try clear c6b0
          try clear p6
          try clear c7
          try clear c7b0
          try clear c7b1
          try clear c9
          try clear c12
          try clear c12b0
          try clear c12b1
          try clear c16
          try clear c16b0
          try clear c16b1
          try clear c17
          try clear c17b0
          try clear c17b1
          try clear c18
          try clear c18b0
          try clear c18b1
          try clear p19
          try clear q19
          try clear hx19
          try clear qi19
          try clear hf19
          try clear hx19_0
          try clear hx462_0
          try clear hx462_1
          try clear hx462_10
          try clear hx462_2
          try clear hx462_3
          try clear hx462_4
          try clear hx462_5
          try clear hx462_6
          try clear hx462_7
          try clear hx462_8
          try clear hx462_9
          try clear hx463_0
          try clear hx463_1
          try clear hx463_10
          try clear hx463_2
          try clear hx463_3
          try clear hx463_4
          try clear hx463_5
          try clear hx463_6
          try clear hx463_7
          try clear hx463_8
          try clear hx463_9
          try clear p19
          try clear p2
          try clear p462
          try clear p463
          try clear q19
          try clear q462
          try clear q463
          obtain ⟨x9_2, x10_2, rfl, HA, HK2, HO_6, HO_9, HB⟩ := hrel
          have hl9_2 := (Kd.R_reads' HO_9.out).1
          rw [hl9_2] at HO_9
          (try simp only [hl9_2])
          (try simp only [hl9_2] at HO_6)
          cases gk with
          | zero => exact absurd HA.out (by simp [larchref05_Orders.l1])
          | succ k2 =>
           have H := HA.out
           clear HA
           simp only [larchref05_Orders.l1] at H
           by_cases c26 : 0 ≤ (x6_1.length : Int)
           ·
            rw [if_pos c26] at H
            have c26b0 := eq_true c26
            have c26b1 : decide (0 ≤ (x6_1.length : Int)) = true := decide_eq_true c26
            clear c26
            obtain ⟨ji27, hji27⟩ : ∃ j_ : Int, (shl .i64 1 (x6_1.length : Int)) = j_ := ⟨_, rfl⟩
            replace H : (if x10_2 < (ji27) then (if 0 ≤ x10_2 then (if x10_2 < (x9_2.length : Int) then (if (rd x9_2 x10_2) = 0 then (larchref05_Orders.l1 k2 x6_1 (x6_1.length : Int) x9_2 (wrap64 (x10_2 + 1))) else (larchref05_Orders.l2 k2 x6_1 (x6_1.length : Int) x9_2 x10_2 0)) else (none)) else (none)) else (if 0 ≤ (wrap64 ((ji27) - 1)) then (if (wrap64 ((ji27) - 1)) < (x9_2.length : Int) then (some (rd x9_2 (wrap64 ((ji27) - 1)), 0)) else (none)) else (none))) = some (r1, r2) := by first | (rw [hji27] at H; exact H) | (simp only [hji27] at H ⊢; exact H)
            have hji27_ : (IntKind.i64.wrap (1 * 2 ^ min (x6_1.length : Int).toNat 64)) = ji27 := hji27
            have hji27z : (x6_1.length : Int) ≤ 64 → (IntKind.i64.wrap (1 * 2 ^ (x6_1.length : Int).toNat)) = ji27 := shl_small hji27
            have hji27p : (IntKind.i64.wrap (1 * 2 ^ min x6_1.length 64)) = ji27 := hji27_
            have hji27q : (x6_1.length : Int) ≤ 64 → (IntKind.i64.wrap (1 * 2 ^ x6_1.length)) = ji27 := hji27z
            have hji27r : (IntKind.i64.wrap (2 ^ min x6_1.length 64)) = ji27 := by have h_ := hji27p; rw [Int.one_mul] at h_; exact h_
            have hji27s : (x6_1.length : Int) ≤ 64 → (IntKind.i64.wrap (2 ^ x6_1.length)) = ji27 := fun hle_ => by have h_ := hji27q hle_; rw [Int.one_mul] at h_; exact h_
            have hji27u : (IntKind.i64.wrap (2 ^ min (x6_1.length : Int).toNat 64)) = ji27 := by have h_ := hji27_; rw [Int.one_mul] at h_; exact h_
            have hji27v : (x6_1.length : Int) ≤ 64 → (IntKind.i64.wrap (2 ^ (x6_1.length : Int).toNat)) = ji27 := fun hle_ => by have h_ := hji27z hle_; rw [Int.one_mul] at h_; exact h_
            have hji27y : (wrap64 (1 * 2 ^ min (x6_1.length : Int).toNat 64)) = ji27 := (i64_w _).symm.trans hji27_
            have hji27x : (x6_1.length : Int) ≤ 64 → (wrap64 (1 * 2 ^ (x6_1.length : Int).toNat)) = ji27 := fun h_ => (i64_w _).symm.trans (hji27z h_)
            (have hsub_ : ji27 = ji15 := hji27.symm.trans hji15; subst hsub_); by_cases c28 : x10_2 < (ji27)
            ·
             rw [if_pos c28] at H
             have c28b0 : decide (x10_2 < (ji27)) = true := decide_eq_true c28
             clear c28
             by_cases c29 : 0 ≤ x10_2
             ·
              rw [if_pos c29] at H
              have c29b0 : decide (0 ≤ x10_2) = true := decide_eq_true c29
              clear c29
              by_cases c30 : x10_2 < (x9_2.length : Int)
              ·
               rw [if_pos c30] at H
               have c30b0 : decide (x10_2 < (x9_2.length : Int)) = true := decide_eq_true c30
               clear c30
               by_cases c31 : (rd x9_2 x10_2) = 0
               ·
                rw [if_pos c31] at H
                have c31b0 : ((rd x9_2 x10_2) == 0) = true := beq_iff_eq.mpr c31
                have c31b1 : ((rd x9_2 x10_2) != 0) = false := bne_eq_false_iff_eq.mpr c31
                clear c31
                have H' := asd H
                clear H
                have p472 : 0 ≤ (x10_2 : Int) := dt
                have q472 : x10_2 < (x9_2.length : Int) := dt
                obtain ⟨ad472, e472, hx472_0⟩ := Kd.at_int (Kd.R_reads' HO_9.out).2.2 x10_2 p472 q472
                obtain rfl : (⟨go19, 0, none⟩ : Addr) = ad472 := (by injection e472)
                (first | simp only [add_plain] at hx472_0 | simp only [add_at] at hx472_0 | simp only [Addr.add, Nat.zero_add] at hx472_0 | skip)
                replace p472 := eq_true p472
                replace q472 := eq_true q472
                go_wp2
                (try simp only [← hl9_2])
                go_roundg k2
                case measure => have := HK1.out; have := HK2.out; omega
                case rel => exact ⟨(x9_2), (wrap64 (x10_2 + 1)), rs, H', ⟨by have := HK1.out; have := HK2.out; omega⟩, ⟨by (try simp only [hl9_2]); (with_reducible repeat (first | apply Kd.N_alloc | apply Kd.N_drewN | apply Kd.N_drew)); exact HO_6.out⟩, ⟨by (try simp only [hl9_2]); (with_reducible repeat (first | apply Kd.R_alloc | apply Kd.R_drewN | apply Kd.R_drew)); exact HO_9.out⟩, ⟨skB HB.out⟩⟩
               ·
                rw [if_neg c31] at H
                have c31b0 : ((rd x9_2 x10_2) == 0) = false := beq_eq_false_iff_ne.mpr c31
                have c31b1 : ((rd x9_2 x10_2) != 0) = true := bne_iff_ne.mpr c31
                have H' := asd H
                clear H
                have p472 : 0 ≤ (x10_2 : Int) := dt
                have q472 : x10_2 < (x9_2.length : Int) := dt
                obtain ⟨ad472, e472, hx472_0⟩ := Kd.at_int (Kd.R_reads' HO_9.out).2.2 x10_2 p472 q472
                obtain rfl : (⟨go19, 0, none⟩ : Addr) = ad472 := (by injection e472)
                (first | simp only [add_plain] at hx472_0 | simp only [add_at] at hx472_0 | simp only [Addr.add, Nat.zero_add] at hx472_0 | skip)
                replace p472 := eq_true p472
                replace q472 := eq_true q472
                go_wp2
                go_loopg [11] k2 (fun kq v11 w' => ∃ (x9_3 : List Int) (x11_3 : Int), v11 = .int .i64 x11_3 ∧ Aside0 (larchref05_Orders.l2 kq x6_1 (x6_1.length : Int) x9_3 x10_2 x11_3 = some (r1, r2)) ∧ Aside0 (kq ≤ k2) ∧ Aside0 (Kd.N k76 76 w' w.heap.size (fun k_ => some k_ ≠ ((.slice (some ⟨go19, 0, none⟩) x9_2.length co19) : Value).ownBlock) (.slice Ao21 x6_1.length co21) x6_1) ∧ Aside0 (Kd.R (Kd.int .i64) 3 w' w.heap.size (fun _ => True) (.slice (some ⟨go19, 0, none⟩) x9_2.length co19) x9_3) ∧ Aside0 (Below w.heap.size w w'))
                case atStart => exact ⟨(x9_2), (0), rs, H', ⟨Nat.le_refl _⟩, ⟨by (try simp only [hl9_2]); (with_reducible repeat (first | apply Kd.N_alloc | apply Kd.N_drewN | apply Kd.N_drew)); exact HO_6.out⟩, ⟨by (try simp only [hl9_2]); (with_reducible repeat (first | apply Kd.R_alloc | apply Kd.R_drewN | apply Kd.R_drew)); exact HO_9.out⟩, ⟨skB HB.out⟩⟩
                case round =>
                 clear H'
                 try clear c1
                 try clear p1
                 try clear q1
                 try clear hx1
                 try clear qi1
                 try clear hf1
                 try clear c2
                 try clear p2
                 try clear c3
                 try clear c3b0
                 try clear c3b1
                 try clear c4
                 try clear p4
                 try clear q4
                 try clear hx4
                 try clear c5
                 try clear c5b0
                 try clear c6
                 try clear c6b0
                 try clear p6
                 try clear c7
                 try clear c7b0
                 try clear c7b1
                 try clear c9
                 try clear c12
                 try clear c12b0
                 try clear c12b1
                 try clear c16
                 try clear c16b0
                 try clear c16b1
                 try clear c17
                 try clear c17b0
                 try clear c17b1
                 try clear c18
                 try clear c18b0
                 try clear c18b1
                 try clear p19
                 try clear q19
                 try clear hx19
                 try clear qi19
                 try clear hf19
                 try clear c26
                 try clear c26b0
                 try clear c26b1
                 try clear c28
                 try clear c28b0
                 try clear c29
                 try clear c29b0
                 try clear c30
                 try clear c30b0
                 try clear c31
                 try clear c31b0
                 try clear c31b1
                 try clear hx19_0
                 try clear hx462_0
                 try clear hx462_1
                 try clear hx462_10
                 try clear hx462_2
                 try clear hx462_3
                 try clear hx462_4
                 try clear hx462_5
                 try clear hx462_6
                 try clear hx462_7
                 try clear hx462_8
                 try clear hx462_9
                 try clear hx463_0
                 try clear hx463_1
                 try clear hx463_10
                 try clear hx463_2
                 try clear hx463_3
                 try clear hx463_4
                 try clear hx463_5
                 try clear hx463_6
                 try clear hx463_7
                 try clear hx463_8
                 try clear hx463_9
                 try clear hx472_0
                 try clear p1
                 try clear p19
                 try clear p2
                 try clear p4
                 try clear p462
                 try clear p463
                 try clear p472
                 try clear p6
                 try clear q1
                 try clear q19
                 try clear q4
                 try clear q462
                 try clear q463
                 try clear q472
                 obtain ⟨x9_3, x11_3, rfl, HA, HK3, HO_6, HO_9, HB⟩ := hrel
                 have hl9_3 := (Kd.R_reads' HO_9.out).1
                 rw [hl9_3] at HO_9
                 (try simp only [hl9_3])
                 (try simp only [hl9_3] at HO_6)
                 cases gk with
                 | zero => exact absurd HA.out (by simp [larchref05_Orders.l2])
                 | succ k3 =>
                  have H := HA.out
                  clear HA
                  simp only [larchref05_Orders.l2] at H
                  by_cases c32 : x11_3 < (x6_1.length : Int)
                  ·
                   rw [if_pos c32] at H
                   have c32b0 : decide (x11_3 < (x6_1.length : Int)) = true := decide_eq_true c32
                   clear c32
                   by_cases c33 : 0 ≤ x11_3
                   ·
                    rw [if_pos c33] at H
                    have c33b0 := eq_true c33
                    have c33b1 : decide (0 ≤ x11_3) = true := decide_eq_true c33
                    clear c33
                    obtain ⟨ji34, hji34⟩ : ∃ j_ : Int, (shr .i64 x10_2 x11_3) = j_ := ⟨_, rfl⟩
                    replace H : (if (Go.bits .and .i64 (ji34) 1) = 1 then (larchref05_Orders.l2 k3 x6_1 (x6_1.length : Int) x9_3 x10_2 (wrap64 (x11_3 + 1))) else (larchref05_Orders.l3 k3 x6_1 (x6_1.length : Int) x9_3 x10_2 x11_3 true 0)) = some (r1, r2) := by first | (rw [hji34] at H; exact H) | (simp only [hji34] at H ⊢; exact H)
                    have hji34_ : (x10_2 / 2 ^ min x11_3.toNat 64) = ji34 := hji34
                    have hji34z : x11_3 ≤ 64 → (x10_2 / 2 ^ x11_3.toNat) = ji34 := shr_small hji34
                    by_cases c35 : (Go.bits .and .i64 (ji34) 1) = 1
                    ·
                     rw [if_pos c35] at H
                     have c35b0 : ((Go.bits .and .i64 (ji34) 1) == 1) = true := beq_iff_eq.mpr c35
                     have c35b1 : ((Go.bits .and .i64 (ji34) 1) != 1) = false := bne_eq_false_iff_eq.mpr c35
                     clear c35
                     have H' := asd H
                     clear H
                     go_wp2
                     (try simp only [← hl9_3])
                     go_roundg k3
                     case measure => have := HK1.out; have := HK2.out; have := HK3.out; omega
                     case rel => exact ⟨(x9_3), (wrap64 (x11_3 + 1)), rs, H', ⟨by have := HK1.out; have := HK2.out; have := HK3.out; omega⟩, ⟨by (try simp only [hl9_2]); (try simp only [hl9_3]); (with_reducible repeat (first | apply Kd.N_alloc | apply Kd.N_drewN | apply Kd.N_drew)); exact HO_6.out⟩, ⟨by (try simp only [hl9_2]); (try simp only [hl9_3]); (with_reducible repeat (first | apply Kd.R_alloc | apply Kd.R_drewN | apply Kd.R_drew)); exact HO_9.out⟩, ⟨skB HB.out⟩⟩
                    ·
                     rw [if_neg c35] at H
                     have c35b0 : ((Go.bits .and .i64 (ji34) 1) == 1) = false := beq_eq_false_iff_ne.mpr c35
                     have c35b1 : ((Go.bits .and .i64 (ji34) 1) != 1) = true := bne_iff_ne.mpr c35
                     have H' := asd H
                     clear H
                     go_wp2
                     go_loopg [12, 13] k3 (fun kq v12 v13 w' => ∃ (x12_4 : Bool) (x13_4 : Int), v12 = .bool x12_4 ∧ v13 = .int .i64 x13_4 ∧ Aside0 (larchref05_Orders.l3 kq x6_1 (x6_1.length : Int) x9_3 x10_2 x11_3 x12_4 x13_4 = some (r1, r2)) ∧ Aside0 (kq ≤ k3) ∧ Aside0 (Kd.N k76 76 w' w.heap.size (fun k_ => some k_ ≠ ((.slice (some ⟨go19, 0, none⟩) x9_3.length co19) : Value).ownBlock) (.slice Ao21 x6_1.length co21) x6_1) ∧ Aside0 (Kd.R (Kd.int .i64) 3 w' w.heap.size (fun _ => True) (.slice (some ⟨go19, 0, none⟩) x9_3.length co19) x9_3) ∧ Aside0 (Below w.heap.size w w'))
                     case atStart => exact ⟨(true), (0), rs, rs, H', ⟨Nat.le_refl _⟩, ⟨by (try simp only [hl9_2]); (try simp only [hl9_3]); (with_reducible repeat (first | apply Kd.N_alloc | apply Kd.N_drewN | apply Kd.N_drew)); exact HO_6.out⟩, ⟨by (try simp only [hl9_2]); (try simp only [hl9_3]); (with_reducible repeat (first | apply Kd.R_alloc | apply Kd.R_drewN | apply Kd.R_drew)); exact HO_9.out⟩, ⟨skB HB.out⟩⟩
                     case round =>
                      clear H'
                      try clear c1
                      try clear p1
                      try clear q1
                      try clear hx1
                      try clear qi1
                      try clear hf1
                      try clear c2
                      try clear p2
                      try clear c3
                      try clear c3b0
                      try clear c3b1
                      try clear c4
                      try clear p4
                      try clear q4
                      try clear hx4
                      try clear c5
                      try clear c5b0
                      try clear c6
                      try clear c6b0
                      try clear p6
                      try clear c7
                      try clear c7b0
                      try clear c7b1
                      try clear c9
                      try clear c12
                      try clear c12b0
                      try clear c12b1
                      try clear c16
                      try clear c16b0
                      try clear c16b1
                      try clear c17
                      try clear c17b0
                      try clear c17b1
                      try clear c18
                      try clear c18b0
                      try clear c18b1
                      try clear p19
                      try clear q19
                      try clear hx19
                      try clear qi19
                      try clear hf19
                      try clear c26
                      try clear c26b0
                      try clear c26b1
                      try clear c28
                      try clear c28b0
                      try clear c29
                      try clear c29b0
                      try clear c30
                      try clear c30b0
                      try clear c31
                      try clear c31b0
                      try clear c31b1
                      try clear c32
                      try clear c32b0
                      try clear c33
                      try clear c33b0
                      try clear c33b1
                      try clear c35
                      try clear c35b0
                      try clear c35b1
                      try clear hx19_0
                      try clear hx462_0
                      try clear hx462_1
                      try clear hx462_10
                      try clear hx462_2
                      try clear hx462_3
                      try clear hx462_4
                      try clear hx462_5
                      try clear hx462_6
                      try clear hx462_7
                      try clear hx462_8
                      try clear hx462_9
                      try clear hx463_0
                      try clear hx463_1
                      try clear hx463_10
                      try clear hx463_2
                      try clear hx463_3
                      try clear hx463_4
                      try clear hx463_5
                      try clear hx463_6
                      try clear hx463_7
                      try clear hx463_8
                      try clear hx463_9
                      try clear hx472_0
                      try clear p1
                      try clear p19
                      try clear p2
                      try clear p4
                      try clear p462
                      try clear p463
                      try clear p472
                      try clear p6
                      try clear q1
                      try clear q19
                      try clear q4
                      try clear q462
                      try clear q463
                      try clear q472
                      obtain ⟨x12_4, x13_4, rfl, rfl, HA, HK4, HO_6, HO_9, HB⟩ := hrel
                      cases gk with
                      | zero => exact absurd HA.out (by simp [larchref05_Orders.l3])
                      | succ k4 =>
                       have H := HA.out
                       clear HA
                       simp only [larchref05_Orders.l3] at H
                       by_cases c36 : x13_4 < (x6_1.length : Int)
                       ·
                        rw [if_pos c36] at H
                        have c36b0 : decide (x13_4 < (x6_1.length : Int)) = true := decide_eq_true c36
                        clear c36
                        by_cases c37 : x13_4 = x11_3
                        ·
                         rw [if_pos c37] at H
                         have c37b0 : (x13_4 == x11_3) = true := beq_iff_eq.mpr c37
                         have c37b1 : (x13_4 != x11_3) = false := bne_eq_false_iff_eq.mpr c37
                         clear c37
                         have H' := asd H
                         clear H
                         go_wp2
                         go_roundg k4
                         case measure => have := HK1.out; have := HK2.out; have := HK3.out; have := HK4.out; omega
                         case rel => exact ⟨(x12_4), (wrap64 (x13_4 + 1)), rs, rs, H', ⟨by have := HK1.out; have := HK2.out; have := HK3.out; have := HK4.out; omega⟩, ⟨by (try simp only [hl9_2]); (try simp only [hl9_3]); (with_reducible repeat (first | apply Kd.N_alloc | apply Kd.N_drewN | apply Kd.N_drew)); exact HO_6.out⟩, ⟨by (try simp only [hl9_2]); (try simp only [hl9_3]); (with_reducible repeat (first | apply Kd.R_alloc | apply Kd.R_drewN | apply Kd.R_drew)); exact HO_9.out⟩, ⟨skB HB.out⟩⟩
                        ·
                         rw [if_neg c37] at H
                         have c37b0 : (x13_4 == x11_3) = false := beq_eq_false_iff_ne.mpr c37
                         have c37b1 : (x13_4 != x11_3) = true := bne_iff_ne.mpr c37
                         by_cases c38 : 0 ≤ x13_4
                         ·
                          rw [if_pos c38] at H
                          have c38b0 := eq_true c38
                          have c38b1 : decide (0 ≤ x13_4) = true := decide_eq_true c38
                          clear c38
                          obtain ⟨ji39, hji39⟩ : ∃ j_ : Int, (shr .i64 x10_2 x13_4) = j_ := ⟨_, rfl⟩
                          replace H : (if (Go.bits .and .i64 (ji39) 1) = 0 then ((larchref05_before.f x6_1 x13_4 x11_3).bind fun t473 => (if t473 = true then (larchref05_Orders.l3 k4 x6_1 (x6_1.length : Int) x9_3 x10_2 x11_3 false (wrap64 (x13_4 + 1))) else (larchref05_Orders.l3 k4 x6_1 (x6_1.length : Int) x9_3 x10_2 x11_3 x12_4 (wrap64 (x13_4 + 1))))) else (larchref05_Orders.l3 k4 x6_1 (x6_1.length : Int) x9_3 x10_2 x11_3 x12_4 (wrap64 (x13_4 + 1)))) = some (r1, r2) := by first | (rw [hji39] at H; exact H) | (simp only [hji39] at H ⊢; exact H)
                          have hji39_ : (x10_2 / 2 ^ min x13_4.toNat 64) = ji39 := hji39
                          have hji39z : x13_4 ≤ 64 → (x10_2 / 2 ^ x13_4.toNat) = ji39 := shr_small hji39
                          by_cases c40 : (Go.bits .and .i64 (ji39) 1) = 0
                          ·
                           rw [if_pos c40] at H
                           have c40b0 : ((Go.bits .and .i64 (ji39) 1) == 0) = true := beq_iff_eq.mpr c40
                           have c40b1 : ((Go.bits .and .i64 (ji39) 1) != 0) = false := bne_eq_false_iff_eq.mpr c40
                           clear c40
                           replace H := Option.bind_eq_some_iff.mp H
                           obtain ⟨t473, A410, H⟩ := H
                           replace H : (if t473 = true then (larchref05_Orders.l3 k4 x6_1 (x6_1.length : Int) x9_3 x10_2 x11_3 false (wrap64 (x13_4 + 1))) else (larchref05_Orders.l3 k4 x6_1 (x6_1.length : Int) x9_3 x10_2 x11_3 x12_4 (wrap64 (x13_4 + 1)))) = some (r1, r2) := H
                           have A41 := asd A410
                           clear A410
                           by_cases c42 : t473 = true
                           ·
                            subst c42
                            have H1 : (larchref05_Orders.l3 k4 x6_1 (x6_1.length : Int) x9_3 x10_2 x11_3 false (wrap64 (x13_4 + 1))) = some (r1, r2) := by rw [if_pos rfl] at H; exact H
                            clear H
                            have H := H1
                            clear H1
                            have H' := asd H
                            clear H
                            go_wp2_with (first | (go_at_call 49; (with_reducible refine (larchref05_before.calls _ _ x6_1 x13_4 x11_3 true _ ?side1 ?side2 A41.out).mono ?_); (case side1 => exact skC (Kd.N_reads' HO_6.out).2.2); (case side2 => exact (Kd.N_reads' HO_6.out).2.1); rintro e w' ⟨rfl, ⟨nd, rfl⟩⟩))
                            go_roundg k4
                            case measure => have := HK1.out; have := HK2.out; have := HK3.out; have := HK4.out; omega
                            case rel => exact ⟨(false), (wrap64 (x13_4 + 1)), rs, rs, H', ⟨by have := HK1.out; have := HK2.out; have := HK3.out; have := HK4.out; omega⟩, ⟨by (try simp only [hl9_2]); (try simp only [hl9_3]); (with_reducible repeat (first | apply Kd.N_alloc | apply Kd.N_drewN | apply Kd.N_drew)); exact HO_6.out⟩, ⟨by (try simp only [hl9_2]); (try simp only [hl9_3]); (with_reducible repeat (first | apply Kd.R_alloc | apply Kd.R_drewN | apply Kd.R_drew)); exact HO_9.out⟩, ⟨skB HB.out⟩⟩
                           ·
                            replace c42 := Bool.eq_false_iff.mpr c42
                            subst c42
                            have H1 : (larchref05_Orders.l3 k4 x6_1 (x6_1.length : Int) x9_3 x10_2 x11_3 x12_4 (wrap64 (x13_4 + 1))) = some (r1, r2) := by rw [if_neg (show ¬ (false = true) by decide)] at H; exact H
                            clear H
                            have H := H1
                            clear H1
                            have H' := asd H
                            clear H
                            go_wp2_with (first | (go_at_call 49; (with_reducible refine (larchref05_before.calls _ _ x6_1 x13_4 x11_3 false _ ?side1 ?side2 A41.out).mono ?_); (case side1 => exact skC (Kd.N_reads' HO_6.out).2.2); (case side2 => exact (Kd.N_reads' HO_6.out).2.1); rintro e w' ⟨rfl, ⟨nd, rfl⟩⟩))
                            go_roundg k4
                            case measure => have := HK1.out; have := HK2.out; have := HK3.out; have := HK4.out; omega
                            case rel => exact ⟨(x12_4), (wrap64 (x13_4 + 1)), rs, rs, H', ⟨by have := HK1.out; have := HK2.out; have := HK3.out; have := HK4.out; omega⟩, ⟨by (try simp only [hl9_2]); (try simp only [hl9_3]); (with_reducible repeat (first | apply Kd.N_alloc | apply Kd.N_drewN | apply Kd.N_drew)); exact HO_6.out⟩, ⟨by (try simp only [hl9_2]); (try simp only [hl9_3]); (with_reducible repeat (first | apply Kd.R_alloc | apply Kd.R_drewN | apply Kd.R_drew)); exact HO_9.out⟩, ⟨skB HB.out⟩⟩
                          ·
                           rw [if_neg c40] at H
                           have c40b0 : ((Go.bits .and .i64 (ji39) 1) == 0) = false := beq_eq_false_iff_ne.mpr c40
                           have c40b1 : ((Go.bits .and .i64 (ji39) 1) != 0) = true := bne_iff_ne.mpr c40
                           have H' := asd H
                           clear H
                           go_wp2
                           go_roundg k4
                           case measure => have := HK1.out; have := HK2.out; have := HK3.out; have := HK4.out; omega
                           case rel => exact ⟨(x12_4), (wrap64 (x13_4 + 1)), rs, rs, H', ⟨by have := HK1.out; have := HK2.out; have := HK3.out; have := HK4.out; omega⟩, ⟨by (try simp only [hl9_2]); (try simp only [hl9_3]); (with_reducible repeat (first | apply Kd.N_alloc | apply Kd.N_drewN | apply Kd.N_drew)); exact HO_6.out⟩, ⟨by (try simp only [hl9_2]); (try simp only [hl9_3]); (with_reducible repeat (first | apply Kd.R_alloc | apply Kd.R_drewN | apply Kd.R_drew)); exact HO_9.out⟩, ⟨skB HB.out⟩⟩
                         ·
                          rw [if_neg c38] at H
                          exact absurd H (by simp)
                       ·
                        rw [if_neg c36] at H
                        have c36b0 : decide (x13_4 < (x6_1.length : Int)) = false := decide_eq_false c36
                        clear c36
                        by_cases c43 : x12_4 = true
                        ·
                         subst c43
                         have H1 : (if 0 ≤ x11_3 then (if 0 ≤ (Go.bits .or .i64 x10_2 (shl .i64 1 x11_3)) then (if (Go.bits .or .i64 x10_2 (shl .i64 1 x11_3)) < (x9_3.length : Int) then (if 0 ≤ x10_2 then (if x10_2 < (x9_3.length : Int) then (larchref05_Orders.l2 k4 x6_1 (x6_1.length : Int) (x9_3.set ((Go.bits .or .i64 x10_2 (shl .i64 1 x11_3)) : Int).toNat (wrap64 ((rd x9_3 (Go.bits .or .i64 x10_2 (shl .i64 1 x11_3))) + (rd x9_3 x10_2)))) x10_2 (wrap64 (x11_3 + 1))) else (none)) else (none)) else (none)) else (none)) else (none)) = some (r1, r2) := by rw [if_pos rfl] at H; exact H
                         clear H
                         have H := H1
                         clear H1
                         by_cases c44 : 0 ≤ x11_3
                         ·
                          rw [if_pos c44] at H
                          have c44b0 := eq_true c44
                          have c44b1 : decide (0 ≤ x11_3) = true := decide_eq_true c44
                          clear c44
                          obtain ⟨ji45, hji45⟩ : ∃ j_ : Int, (shl .i64 1 x11_3) = j_ := ⟨_, rfl⟩
                          replace H : (if 0 ≤ (Go.bits .or .i64 x10_2 (ji45)) then (if (Go.bits .or .i64 x10_2 (ji45)) < (x9_3.length : Int) then (if 0 ≤ x10_2 then (if x10_2 < (x9_3.length : Int) then (larchref05_Orders.l2 k4 x6_1 (x6_1.length : Int) (x9_3.set ((Go.bits .or .i64 x10_2 (ji45)) : Int).toNat (wrap64 ((rd x9_3 (Go.bits .or .i64 x10_2 (ji45))) + (rd x9_3 x10_2)))) x10_2 (wrap64 (x11_3 + 1))) else (none)) else (none)) else (none)) else (none)) = some (r1, r2) := by first | (rw [hji45] at H; exact H) | (simp only [hji45] at H ⊢; exact H)
                          have hji45_ : (IntKind.i64.wrap (1 * 2 ^ min x11_3.toNat 64)) = ji45 := hji45
                          have hji45z : x11_3 ≤ 64 → (IntKind.i64.wrap (1 * 2 ^ x11_3.toNat)) = ji45 := shl_small hji45
                          have hji45u : (IntKind.i64.wrap (2 ^ min x11_3.toNat 64)) = ji45 := by have h_ := hji45_; rw [Int.one_mul] at h_; exact h_
                          have hji45v : x11_3 ≤ 64 → (IntKind.i64.wrap (2 ^ x11_3.toNat)) = ji45 := fun hle_ => by have h_ := hji45z hle_; rw [Int.one_mul] at h_; exact h_
                          have hji45y : (wrap64 (1 * 2 ^ min x11_3.toNat 64)) = ji45 := (i64_w _).symm.trans hji45_
                          have hji45x : x11_3 ≤ 64 → (wrap64 (1 * 2 ^ x11_3.toNat)) = ji45 := fun h_ => (i64_w _).symm.trans (hji45z h_)
                          have c46b0 := eq_true (dt : 0 ≤ x11_3)
                          skip
                          by_cases c48 : 0 ≤ (Go.bits .or .i64 x10_2 (ji45))
                          ·
                           rw [if_pos c48] at H
                           have c48b0 : decide (0 ≤ (Go.bits .or .i64 x10_2 (ji45))) = true := decide_eq_true c48
                           clear c48
                           by_cases c49 : (Go.bits .or .i64 x10_2 (ji45)) < (x9_3.length : Int)
                           ·
                            rw [if_pos c49] at H
                            have c49b0 : decide ((Go.bits .or .i64 x10_2 (ji45)) < (x9_3.length : Int)) = true := decide_eq_true c49
                            clear c49
                            by_cases c50 : 0 ≤ x10_2
                            ·
                             rw [if_pos c50] at H
                             have c50b0 : decide (0 ≤ x10_2) = true := decide_eq_true c50
                             clear c50
                             by_cases c51 : x10_2 < (x9_3.length : Int)
                             ·
                              rw [if_pos c51] at H
                              have c51b0 : decide (x10_2 < (x9_3.length : Int)) = true := decide_eq_true c51
                              clear c51
                              obtain ⟨y476, hy476⟩ : ∃ y_ : List Int, y_ = (x9_3.set ((Go.bits .or .i64 x10_2 (ji45)) : Int).toNat (wrap64 ((rd x9_3 (Go.bits .or .i64 x10_2 (ji45))) + (rd x9_3 x10_2)))) := ⟨_, rfl⟩
                              replace H : (larchref05_Orders.l2 k4 x6_1 (x6_1.length : Int) y476 x10_2 (wrap64 (x11_3 + 1))) = some (r1, r2) := by first | (rw [hy476]; with_reducible exact H) | (have H2_ := (Option.bind_some _ _).symm.trans H; rw [hy476]; with_reducible exact H2_) | (have H2_ := (Option.bind_some _ _).symm.trans H; with_reducible exact H2_) | with_reducible exact H | (rw [hy476]; exact H) | exact H
                              have Ny476 := asd hy476
                              clear hy476
                              have H' := asd H
                              clear H
                              try go_wp2
                              have n0_ := asd (Kd.N_drew HO_6.out)
                              have n1_ := asd (Kd.R_drew HO_9.out)
                              have n2_ := asd (below_drew1 HB.out)
                              clear HO_6
                              clear HO_9
                              clear HB
                              have HO_6 := n0_
                              have HO_9 := n1_
                              have HB := n2_
                              clear n0_ n1_ n2_
                              have p474 : 0 ≤ ((Go.bits .or .i64 x10_2 (ji45)) : Int) := dt
                              have q474 : (Go.bits .or .i64 x10_2 (ji45)) < (x9_3.length : Int) := dt
                              obtain ⟨ad474, e474, hx474_0⟩ := Kd.at_int (Kd.R_reads' HO_9.out).2.2 (Go.bits .or .i64 x10_2 (ji45)) p474 q474
                              obtain rfl : (⟨go19, 0, none⟩ : Addr) = ad474 := (by injection e474)
                              (first | simp only [add_plain] at hx474_0 | simp only [add_at] at hx474_0 | simp only [Addr.add, Nat.zero_add] at hx474_0 | skip)
                              replace p474 := eq_true p474
                              replace q474 := eq_true q474
                              have p475 : 0 ≤ (x10_2 : Int) := dt
                              have q475 : x10_2 < (x9_3.length : Int) := dt
                              obtain ⟨ad475, e475, hx475_0⟩ := Kd.at_int (Kd.R_reads' HO_9.out).2.2 x10_2 p475 q475
                              obtain rfl : (⟨go19, 0, none⟩ : Addr) = ad475 := (by injection e475)
                              (first | simp only [add_plain] at hx475_0 | simp only [add_at] at hx475_0 | simp only [Addr.add, Nat.zero_add] at hx475_0 | skip)
                              replace p475 := eq_true p475
                              replace q475 := eq_true q475
                              have p52 : 0 ≤ ((Go.bits .or .i64 x10_2 (ji45)) : Int) := dt
                              have q52 : ((Go.bits .or .i64 x10_2 (ji45)) : Int) < ((x9_3.length : Int) : Int) := dt
                              obtain ⟨hx52_0, hf52_0⟩ := Kd.R_celln 0 HO_9.out ((Go.bits .or .i64 x10_2 (ji45)) : Int) p52 q52
                              replace p52 := eq_true p52
                              replace q52 := eq_true q52
                              have HP54 := Kd.R_putn HO_9.out ((Go.bits .or .i64 x10_2 (ji45)) : Int) (wrap64 ((rd x9_3 (Go.bits .or .i64 x10_2 (ji45))) + (rd x9_3 x10_2)))
                              rw [← Ny476.out] at HP54
                              have HQ54 := asd HP54
                              clear HP54
                              refine start_ (n := 19) (S := fun w' => w'.cell? ⟨go19, ((Go.bits .or .i64 x10_2 (ji45))).toNat, none⟩ = some (.int .i64 (rd x9_3 (Go.bits .or .i64 x10_2 (ji45)))) ∧ w'.cell? ⟨go19, (x10_2).toNat, none⟩ = some (.int .i64 (rd x9_3 x10_2))) (ds := [18]) #[false,false,false,false,false,false,false,false,false,false,false,false,false,false,false,false,false,false,false] (by kernel_rfl) rfl rfl ⟨hx474_0, hx475_0⟩ (fun hHeld => ?_); refine with_tabW larchref05_Orders.tab30 larchref05_Orders.bits30 (fun HT_ HW_ => ?_)
                              generalize wr.drew = w53 at HO_6 HO_9 HB HQ54 hf52_0 hx474_0 hx475_0 hx52_0 hHeld ⊢
                              refine pure_ (i := 0) (N := some 94) (v := ?_) (a' := ?_) #[true,false,false,false,false,false,false,false,false,false,false,false,false,false,false,false,false,false,false] rfl rfl (aK HT_.out) (fun _ _ _ h => h) (Or.inl ⟨by rfl, ?_⟩) ?_ ?_
                              rotate_left
                              ·
                               intro w'
                               go_simp
                               with_reducible rfl
                              rotate_left
                              ·
                               simp only [Act.put, sp]
                               rfl
                              refine pure_ (i := 1) (N := some 95) (v := ?_) (a' := ?_) #[true,true,false,false,false,false,false,false,false,false,false,false,false,false,false,false,false,false,false] rfl rfl (aK HT_.out) (fun _ _ _ h => h) (Or.inl ⟨by rfl, ?_⟩) ?_ ?_
                              rotate_left
                              ·
                               intro w'
                               go_simp
                               with_reducible rfl
                              rotate_left
                              ·
                               simp only [Act.put, sp]
                               rfl
                              refine pure_ (i := 2) (N := some 96) (v := ?_) (a' := ?_) #[true,true,true,false,false,false,false,false,false,false,false,false,false,false,false,false,false,false,false] rfl rfl (aK HT_.out) (fun _ _ _ h => h) (Or.inl ⟨by rfl, ?_⟩) ?_ ?_
                              rotate_left
                              ·
                               intro w'
                               go_simp
                               with_reducible rfl
                              rotate_left
                              ·
                               simp only [Act.put, sp]
                               rfl
                              refine pure_ (i := 3) (N := some 97) (v := ?_) (a' := ?_) #[true,true,true,true,false,false,false,false,false,false,false,false,false,false,false,false,false,false,false] rfl rfl (aK HT_.out) (fun _ _ _ h => h) (Or.inl ⟨by rfl, ?_⟩) ?_ ?_
                              rotate_left
                              ·
                               intro w'
                               go_simp
                               with_reducible rfl
                              rotate_left
                              ·
                               simp only [Act.put, sp]
                               rfl
                              refine pure_ (i := 4) (N := some 98) (v := ?_) (a' := ?_) #[true,true,true,true,true,false,false,false,false,false,false,false,false,false,false,false,false,false,false] rfl rfl (aK HT_.out) (fun _ _ _ h => h) (Or.inl ⟨by rfl, ?_⟩) ?_ ?_
                              rotate_left
                              ·
                               intro w'
                               go_simp
                               with_reducible rfl
                              rotate_left
                              ·
                               simp only [Act.put, sp]
                               rfl
                              refine pure_ (i := 5) (N := some 99) (v := ?_) (a' := ?_) #[true,true,true,true,true,true,false,false,false,false,false,false,false,false,false,false,false,false,false] rfl rfl (aK HT_.out) (fun _ _ _ h => h) (Or.inl ⟨by rfl, ?_⟩) ?_ ?_
                              rotate_left
                              ·
                               intro w'
                               go_simp
                               with_reducible rfl
                              rotate_left
                              ·
                               simp only [Act.put, sp]
                               rfl
                              refine pure_ (i := 6) (N := some 100) (v := ?_) (a' := ?_) #[true,true,true,true,true,true,true,false,false,false,false,false,false,false,false,false,false,false,false] rfl rfl (aK HT_.out) (fun _ _ _ h => h) (Or.inl ⟨by rfl, ?_⟩) ?_ ?_
                              rotate_left
                              ·
                               intro w'
                               go_simp
                               with_reducible rfl
                              rotate_left
                              ·
                               simp only [Act.put, sp]
                               rfl
                              refine pure_ (i := 7) (N := some 101) (v := ?_) (a' := ?_) #[true,true,true,true,true,true,true,true,false,false,false,false,false,false,false,false,false,false,false] rfl rfl (aK HT_.out) (fun _ _ _ h => h) (Or.inl ⟨by rfl, ?_⟩) ?_ ?_
                              rotate_left
                              ·
                               intro w'
                               go_simp
                               with_reducible rfl
                              rotate_left
                              ·
                               simp only [Act.put, sp]
                               rfl
                              refine pure_ (i := 8) (N := some 102) (v := ?_) (a' := ?_) #[true,true,true,true,true,true,true,true,true,false,false,false,false,false,false,false,false,false,false] rfl rfl (aK HT_.out) (fun _ _ _ h => h) (Or.inl ⟨by rfl, ?_⟩) ?_ ?_
                              rotate_left
                              ·
                               intro w'
                               go_simp
                               with_reducible rfl
                              rotate_left
                              ·
                               simp only [Act.put, sp]
                               rfl
                              refine pure_ (i := 9) (N := some 103) (v := ?_) (a' := ?_) #[true,true,true,true,true,true,true,true,true,true,false,false,false,false,false,false,false,false,false] rfl rfl (aK HT_.out) (fun _ _ _ h => h) (Or.inl ⟨by rfl, ?_⟩) ?_ ?_
                              rotate_left
                              ·
                               intro w'
                               go_simp
                               with_reducible rfl
                              rotate_left
                              ·
                               simp only [Act.put, sp]
                               rfl
                              refine pure_ (i := 10) (N := some 104) (v := ?_) (a' := ?_) #[true,true,true,true,true,true,true,true,true,true,true,false,false,false,false,false,false,false,false] rfl rfl (aK HT_.out) (fun _ _ _ h => h) (Or.inl ⟨by rfl, ?_⟩) ?_ ?_
                              rotate_left
                              ·
                               intro w'
                               go_simp
                               with_reducible rfl
                              rotate_left
                              ·
                               simp only [Act.put, sp]
                               rfl
                              refine pure_ (i := 12) (N := some 106) (v := ?_) (a' := ?_) #[true,true,true,true,true,true,true,true,true,true,true,false,true,false,false,false,false,false,false] rfl rfl (aK HT_.out) (fun _ _ _ h => h) (Or.inl ⟨by rfl, ?_⟩) ?_ ?_
                              rotate_left
                              ·
                               intro w'
                               go_simp
                               with_reducible rfl
                              rotate_left
                              ·
                               simp only [Act.put, sp]
                               rfl
                              refine pure_ (i := 13) (N := some 107) (v := ?_) (a' := ?_) #[true,true,true,true,true,true,true,true,true,true,true,false,true,true,false,false,false,false,false] rfl rfl (aK HT_.out) (fun _ _ _ h => h) (Or.inl ⟨by rfl, ?_⟩) ?_ ?_
                              rotate_left
                              ·
                               intro w'
                               go_simp
                               with_reducible rfl
                              rotate_left
                              ·
                               simp only [Act.put, sp]
                               rfl
                              refine pure_ (i := 14) (N := some 108) (v := ?_) (a' := ?_) #[true,true,true,true,true,true,true,true,true,true,true,false,true,true,true,false,false,false,false] rfl rfl (aK HT_.out) (fun _ _ _ h => h) (Or.inl ⟨by rfl, ?_⟩) ?_ ?_
                              rotate_left
                              ·
                               intro w'
                               go_simp
                               with_reducible rfl
                              rotate_left
                              ·
                               simp only [Act.put, sp]
                               rfl
                              refine take_ (i := 11) (N := some 105) (v := ?_) (a' := ?_) #[true,true,true,true,true,true,true,true,true,true,true,true,true,true,true,false,false,false,false] rfl rfl (take_ofW HT_.out HW_.out (by kernel_rfl)) (fun _ _ _ h => h) (Or.inl ⟨by rfl, ?_⟩) hHeld ?_ ?_
                              rotate_left
                              ·
                               rintro w' ⟨s0, s1⟩
                               go_simp
                               with_reducible rfl
                              rotate_left
                              ·
                               simp only [Act.put, sp]
                               rfl
                              refine take_ (i := 15) (N := some 109) (v := ?_) (a' := ?_) #[true,true,true,true,true,true,true,true,true,true,true,true,true,true,true,true,false,false,false] rfl rfl (take_ofW HT_.out HW_.out (by kernel_rfl)) (fun _ _ _ h => h) (Or.inl ⟨by rfl, ?_⟩) hHeld ?_ ?_
                              rotate_left
                              ·
                               rintro w' ⟨s0, s1⟩
                               go_simp
                               with_reducible rfl
                              rotate_left
                              ·
                               simp only [Act.put, sp]
                               rfl
                              refine pure_ (i := 16) (N := some 110) (v := ?_) (a' := ?_) #[true,true,true,true,true,true,true,true,true,true,true,true,true,true,true,true,true,false,false] rfl rfl (aK HT_.out) (fun _ _ _ h => h) (Or.inl ⟨by rfl, ?_⟩) ?_ ?_
                              rotate_left
                              ·
                               intro w'
                               go_simp
                               with_reducible rfl
                              rotate_left
                              ·
                               simp only [Act.put, sp]
                               rfl
                              refine pure_ (i := 17) (N := some 111) (v := ?_) (a' := ?_) #[true,true,true,true,true,true,true,true,true,true,true,true,true,true,true,true,true,true,false] rfl rfl (aK HT_.out) (fun _ _ _ h => h) (Or.inl ⟨by rfl, ?_⟩) ?_ ?_
                              rotate_left
                              ·
                               intro w'
                               go_simp
                               with_reducible rfl
                              rotate_left
                              ·
                               simp only [Act.put, sp]
                               rfl
                              refine last_ (i := 18) (N := none) #[true,true,true,true,true,true,true,true,true,true,true,true,true,true,true,true,true,true,true] rfl rfl (one_of HT_.out (by kernel_rfl)) (by decide) (fun K hK => ?_)
                              refine skip_ (w1 := ?_) (by rfl) rfl ?_ ?_
                              rotate_left
                              ·
                               go_simp
                               rfl
                              refine hK.out _ _ ?_
                              clear hK K
                              refine done_ (done_of HT_.out (by kernel_rfl)) ?_
                              try go_wp2
                              (try simp only [← hl9_3])
                              go_roundg k4
                              case measure => have := HK1.out; have := HK2.out; have := HK3.out; have := HK4.out; omega
                              case rel => exact ⟨(y476), (wrap64 (x11_3 + 1)), rs, H', ⟨by have := HK1.out; have := HK2.out; have := HK3.out; have := HK4.out; omega⟩, ⟨by (try simp only [hl9_2]); (try simp only [hl9_3]); (with_reducible repeat (first | apply Kd.N_alloc | apply Kd.N_drewN | apply Kd.N_drew)); exact Kd.N_mono (Kd.N_far (p := ⟨go19, ((Go.bits .or .i64 x10_2 (ji45)) : Int).toNat, none⟩) (Kd.N_mono HO_6.out (fun k_ hk => (⟨hk, fun e_ => hk (by rw [e_]; rfl)⟩ : _ ∧ k_ ≠ go19))) (fun _ hk => hk.2) (.int .i64 (wrap64 ((rd x9_3 (Go.bits .or .i64 x10_2 (ji45))) + (rd x9_3 x10_2))))) (fun _ hk => hk.1)⟩, ⟨by (try simp only [hl9_2]); (try simp only [hl9_3]); (with_reducible repeat (first | apply Kd.R_alloc | apply Kd.R_drewN | apply Kd.R_drew)); exact HQ54.out⟩, ⟨skG HB.out GB19.out GB19.out⟩⟩
                             ·
                              rw [if_neg c51] at H
                              exact absurd H (by simp)
                            ·
                             rw [if_neg c50] at H
                             exact absurd H (by simp)
                           ·
                            rw [if_neg c49] at H
                            exact absurd H (by simp)
                          ·
                           rw [if_neg c48] at H
                           exact absurd H (by simp)
                         ·
                          rw [if_neg c44] at H
                          exact absurd H (by simp)
                        ·
                         replace c43 := Bool.eq_false_iff.mpr c43
                         subst c43
                         have H1 : (larchref05_Orders.l2 k4 x6_1 (x6_1.length : Int) x9_3 x10_2 (wrap64 (x11_3 + 1))) = some (r1, r2) := by rw [if_neg (show ¬ (false = true) by decide)] at H; exact H
                         clear H
                         have H := H1
                         clear H1
                         have H' := asd H
                         clear H
                         go_wp2
                         (try simp only [← hl9_3])
                         go_roundg k4
                         case measure => have := HK1.out; have := HK2.out; have := HK3.out; have := HK4.out; omega
                         case rel => exact ⟨(x9_3), (wrap64 (x11_3 + 1)), rs, H', ⟨by have := HK1.out; have := HK2.out; have := HK3.out; have := HK4.out; omega⟩, ⟨by (try simp only [hl9_2]); (try simp only [hl9_3]); (with_reducible repeat (first | apply Kd.N_alloc | apply Kd.N_drewN | apply Kd.N_drew)); exact HO_6.out⟩, ⟨by (try simp only [hl9_2]); (try simp only [hl9_3]); (with_reducible repeat (first | apply Kd.R_alloc | apply Kd.R_drewN | apply Kd.R_drew)); exact HO_9.out⟩, ⟨skB HB.out⟩⟩
                   ·
                    rw [if_neg c33] at H
                    exact absurd H (by simp)
                  ·
                   rw [if_neg c32] at H
                   have c32b0 : decide (x11_3 < (x6_1.length : Int)) = false := decide_eq_false c32
                   clear c32
                   have H' := asd H
                   clear H
                   go_wp2
                   (try simp only [← hl9_2, ← hl9_3])
                   go_roundg k3
                   case measure => have := HK1.out; have := HK2.out; have := HK3.out; omega
                   case rel => exact ⟨(x9_3), (wrap64 (x10_2 + 1)), rs, H', ⟨by have := HK1.out; have := HK2.out; have := HK3.out; omega⟩, ⟨by (try simp only [hl9_2]); (try simp only [hl9_3]); (with_reducible repeat (first | apply Kd.N_alloc | apply Kd.N_drewN | apply Kd.N_drew)); exact HO_6.out⟩, ⟨by (try simp only [hl9_2]); (try simp only [hl9_3]); (with_reducible repeat (first | apply Kd.R_alloc | apply Kd.R_drewN | apply Kd.R_drew)); exact HO_9.out⟩, ⟨skB HB.out⟩⟩
              ·
               rw [if_neg c30] at H
               exact absurd H (by simp)
             ·
              rw [if_neg c29] at H
              exact absurd H (by simp)
            ·
             rw [if_neg c28] at H
             have c28b0 : decide (x10_2 < (ji27)) = false := decide_eq_false c28
             clear c28
             have c55b0 := eq_true (dt : 0 ≤ (x6_1.length : Int))
             skip
             obtain ⟨ji57, hji57⟩ : ∃ j_ : Int, (wrap64 ((ji27) - 1)) = j_ := ⟨_, rfl⟩
             replace H : (if 0 ≤ (ji57) then (if (ji57) < (x9_2.length : Int) then (some (rd x9_2 (ji57), 0)) else (none)) else (none)) = some (r1, r2) := by first | (rw [hji57] at H; exact H) | (simp only [hji57] at H ⊢; exact H)
             have hji57w : (IntKind.i64.wrap ((ji27) - 1)) = ji57 := (i64_w _).trans hji57
             by_cases c58 : 0 ≤ (ji57)
             ·
              rw [if_pos c58] at H
              have c58b0 : decide (0 ≤ (ji57)) = true := decide_eq_true c58
              clear c58
              by_cases c59 : (ji57) < (x9_2.length : Int)
              ·
               rw [if_pos c59] at H
               have c59b0 : decide ((ji57) < (x9_2.length : Int)) = true := decide_eq_true c59
               clear c59
               simp only [Option.some.injEq, Prod.mk.injEq] at H
               obtain ⟨rfl, rfl⟩ := H
               have p471 : 0 ≤ ((ji57) : Int) := dt
               have q471 : (ji57) < (x9_2.length : Int) := dt
               obtain ⟨ad471, e471, hx471_0⟩ := Kd.at_int (Kd.R_reads' HO_9.out).2.2 (ji57) p471 q471
               obtain rfl : (⟨go19, 0, none⟩ : Addr) = ad471 := (by injection e471)
               (first | simp only [add_plain] at hx471_0 | simp only [add_at] at hx471_0 | simp only [Addr.add, Nat.zero_add] at hx471_0 | skip)
               replace p471 := eq_true p471
               replace q471 := eq_true q471
               go_wp2
               go_ret2
               exact ⟨by first | rfl | (simp [errW_none, errW_some] <;> rfl) | (simp only [← hji15, ← hji27, ← hji57]; first | rfl | (simp [errW_none, errW_some] <;> rfl)) | (simp [*, errW_none, errW_some] <;> rfl), skB HB.out⟩
              ·
               rw [if_neg c59] at H
               exact absurd H (by simp)
             ·
              rw [if_neg c58] at H
              exact absurd H (by simp)
           ·
            rw [if_neg c26] at H
            exact absurd H (by simp)
        ·
         rw [if_neg c18] at H
         exact absurd H (by simp)
       ·
        rw [if_neg c17] at H
        exact absurd H (by simp)
      ·
       rw [if_neg c16] at H
       exact absurd H (by simp)
 ·
  rw [if_neg c3] at H
  have c3b0 : (t459 == 0) = false := beq_eq_false_iff_ne.mpr c3
  have c3b1 : (t459 != 0) = true := bne_iff_ne.mpr c3
  simp only [Option.some.injEq, Prod.mk.injEq] at H
  obtain ⟨rfl, rfl⟩ := H
  go_enter Try.func18, Try.ntmps18
  go_wp2_with (first | ((with_reducible refine gate_callee (f := 38) rfl ?_); refine goesL_ (some 16) rfl rfl Try.func38 (by kernel_rfl) rfl #[.slice A0 l0.length c0] rfl ags ?_; (with_reducible refine (larchref05_Calls.calls k _ _ l0 t458 t459 _ ?side1 ?side2 A2.out).mono ?_); (case side1 => exact skC HR0.out); (case side2 => exact HC0.out); rintro e w60 ⟨v460, rfl, ho0, hb⟩; refine ⟨_, rfl, ?_⟩; have n0_ := asd (Kd.N_lower (Kd.N_mono (ok' := fun k_ => True) (Kd.S_N (Kd.S_bound ho0)) (fun k_ hk_ => trivial)) (below_size (skB HB.out))); have n1_ := asd (below_step (skB HB.out) hb); clear HB; have HO461 := n0_; have HB := n1_; clear n0_ n1_; (try clear hb); (try clear hb2); (try clear hk); (try clear hi); (try clear ho0)))
  go_ret2
  exact ⟨re, skB HB.out⟩
end Go.Proofs.Ytagdkmcgepidoaa.P
