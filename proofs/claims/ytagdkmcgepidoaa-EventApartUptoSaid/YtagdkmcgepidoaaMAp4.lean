/- P.eventApart_holds, part 5 of 41: the contracts of the Go functions that the law calls, its own walk, and its plain law, for every input that the statement speaks of. -/
import Derived.Test.YtagdkmcgepidoaaMAp2
import Derived.Test.YtagdkmcgepidoaaMAp1
import Derived.Test.YtagdkmcgepidoaaMAp3
set_option linter.unusedVariables false
set_option linter.unusedSimpArgs false
/- F22 -/
namespace Go.Proofs.Ytagdkmcgepidoaa.P
open Go.RowKit Go.Proofs.YtagdkmcgepidoaaW.PrintWords Go.Proofs.YtagdkmcgepidoaaW.PrintLast Go.Proofs.YtagdkmcgepidoaaW.PrintMore
attribute [local go_sem] max2_int min2_int max_two min_two max_three min_three max_four min_four   -- for this text's walks alone
set_option linter.unusedVariables false
set_option linter.unusedSimpArgs false
def larchref05_calls.l0 : Nat → List (S67) → List (S76) → List Int → Int → Option ((List (S76)))
 | 0, _, _, _, _ => none
 | k + 1, x0, x3, x4, x5 => if x5 < (x0.length : Int) then (if 0 ≤ x5 then (if ((J67 x0 x5).f1 = true) then (if 0 ≤ ((J67 x0 x5).f0) then (if ((J67 x0 x5).f0) < (x4.length : Int) then (if 0 ≤ (rd x4 ((J67 x0 x5).f0)) then (if (rd x4 ((J67 x0 x5).f0)) < (x3.length : Int) then ((some (x3.set ((rd x4 ((J67 x0 x5).f0)) : Int).toNat (⟨(J76 x3 (rd x4 ((J67 x0 x5).f0))).f0, (⟨(J76 x3 (rd x4 ((J67 x0 x5).f0))).f1.f0, (J76 x3 (rd x4 ((J67 x0 x5).f0))).f1.f1, (J76 x3 (rd x4 ((J67 x0 x5).f0))).f1.f2, (J76 x3 (rd x4 ((J67 x0 x5).f0))).f1.f3⟩ : S33), (⟨(J76 x3 (rd x4 ((J67 x0 x5).f0))).f2.f0, (J76 x3 (rd x4 ((J67 x0 x5).f0))).f2.f1, (J76 x3 (rd x4 ((J67 x0 x5).f0))).f2.f2, (J76 x3 (rd x4 ((J67 x0 x5).f0))).f2.f3⟩ : S36), (J76 x3 (rd x4 ((J67 x0 x5).f0))).f3, x5⟩ : S76) : List (S76))).bind fun y174 => ((larchref05_CopyRet.f ((J67 x0 x5).f3.f0) ((J67 x0 x5).f3.f1) ((J67 x0 x5).f3.f2) ((J67 x0 x5).f3.f3)).bind fun bt176 => (larchref05_calls.l0 k x0 (y174.set ((rd x4 ((J67 x0 x5).f0)) : Int).toNat (⟨(J76 y174 (rd x4 ((J67 x0 x5).f0))).f0, (⟨(J76 y174 (rd x4 ((J67 x0 x5).f0))).f1.f0, (J76 y174 (rd x4 ((J67 x0 x5).f0))).f1.f1, (J76 y174 (rd x4 ((J67 x0 x5).f0))).f1.f2, (J76 y174 (rd x4 ((J67 x0 x5).f0))).f1.f3⟩ : S33), (⟨bt176.1, bt176.2.1, bt176.2.2.1, bt176.2.2.2⟩ : S36), (J76 y174 (rd x4 ((J67 x0 x5).f0))).f3, (J76 y174 (rd x4 ((J67 x0 x5).f0))).f4⟩ : S76)) x4 (wrap64 (x5 + 1))))) else (none)) else (none)) else (none)) else (none)) else (if 0 ≤ ((J67 x0 x5).f0) then (if ((J67 x0 x5).f0) < (x4.length : Int) then (if x3.length < 1353245080339 then (larchref05_calls.l0 k x0 (x3 ++ [(⟨(J67 x0 x5).f0, (⟨(J67 x0 x5).f2.f0, (J67 x0 x5).f2.f1, (J67 x0 x5).f2.f2, (J67 x0 x5).f2.f3⟩ : S33), (⟨false, 0, 0, ([] : List (S70))⟩ : S36), x5, (-1)⟩ : S76)]) (x4.set (((J67 x0 x5).f0) : Int).toNat (x3.length : Int)) (wrap64 (x5 + 1))) else (none)) else (none)) else (none))) else (none)) else (some x3)
def larchref05_calls.f (k : Nat) (l0 : List (S67)) : Option ((List (S76))) := if 64 ≤ 35184372088832 then (larchref05_calls.l0 k l0 ([] : List (S76)) (List.replicate 64 0) 0) else (none)
def larchref05_calls.T8 : Bool × List (List Nat × List Nat) := (true, [([], []), ([], []), ([], []), ([1, 2], [1, 2]), ([3], [3]), ([4], [4]), ([], []), ([], []), ([6, 7], [6, 7]), ([8], [8]), ([9], [9]), ([], []), ([5, 10, 11], [5, 10, 11]), ([12], [12]), ([0, 13], [0, 13]), ([14, 14, 0, 1, 2, 3, 4, 5, 6, 7, 8, 9, 10, 11, 12, 13, 14], [0, 14])])
def larchref05_calls.B8 : List Nat := [0, 0, 0, 6, 14, 30, 0, 0, 192, 448, 960, 0, 4094, 8190, 16383, 32767]
theorem larchref05_calls.tab8 : rtab .any (opsOf Try.f64 8) = larchref05_calls.T8 := by kernel_rfl
theorem larchref05_calls.bits8 : waitsOk larchref05_calls.T8.2 larchref05_calls.B8 = true := by kernel_rfl
set_option maxHeartbeats 8000000 in
set_option maxRecDepth 100000 in
theorem larchref05_calls.calls (k : Nat) (A0 : Option Addr) (c0 : Nat) (l0 : List (S67)) (r : List (S76)) (w : World) (hr0 : Kd.C k67 w A0 l0.length l0) (hc0 : l0.length ≤ c0) (h : larchref05_calls.f k l0 = some r) :
  Calls Try.prog 64 #[.slice A0 l0.length c0] w fun e w' => ∃ v0_ : Value, e = .returned (v0_) ∧ Kd.S k76 76 w' w.heap.size (fun _ => True) v0_ r ∧ Below w.heap.size w w' := by
 have hu33 := Try.underlying33
 have hu76 := Try.underlying76
 have hu36 := Try.underlying36
 have HR0 := asd hr0
 have HC0 := asd hc0
 clear hr0 hc0
 have HB := asd (Below.refl w.heap.size w)
 have H : (if 64 ≤ 35184372088832 then (larchref05_calls.l0 k l0 ([] : List (S76)) (List.replicate 64 0) 0) else (none)) = some r := h
 clear h
 by_cases c2 : 64 ≤ 35184372088832
 ·
  rw [if_pos c2] at H
  have c2b0 := eq_true c2
  have c2b1 : decide (64 ≤ 35184372088832) = true := decide_eq_true c2
  clear c2
  obtain ⟨y168, hy168⟩ : ∃ y_ : List Int, y_ = (List.replicate 64 0) := ⟨_, rfl⟩
  replace H : (larchref05_calls.l0 k l0 ([] : List (S76)) y168 0) = some r := by first | (rw [hy168]; with_reducible exact H) | (have H2_ := (Option.bind_some _ _).symm.trans H; rw [hy168]; with_reducible exact H2_) | (have H2_ := (Option.bind_some _ _).symm.trans H; with_reducible exact H2_) | with_reducible exact H | (rw [hy168]; exact H) | exact H
  have Ny168 := asd hy168
  clear hy168
  have H' := asd H
  clear H
  go_enter Try.func64, Try.ntmps64
  go_wp2_with (first | ((with_reducible refine gate_dst (N := 7) rfl ?_); refine Kd.R_make (Kd.int .i64) _ 3 rfl (N := 7) rfl 41 _ _ rfl 64 rfl rfl Try.underlying41 (.int .i64 0) 8 info3 rfl (by decide) (by omega) 0 (ok := fun _ => True) (okp := fun _ => True) rfl (fun _ hk => hk) trivial (by omega) (by omega) (Below.refl _ _) (Nat.le_refl _) ?_; intro v169 w3 ho4 hb hg_ hnew_; clear hg_ hnew_; (first | rw [← Ny168.out] at ho4 | (simp only [Int.reduceToNat] at ho4; rw [← Ny168.out] at ho4)); have n0_ := asd (Kd.R_lower ho4 (below_size (skB HB.out))); have n1_ := asd (below_step (skB HB.out) hb); clear HB; have HO170 := n0_; have HB := n1_; clear n0_ n1_; clear hb ho4))
  go_loopg [3, 5] k (fun kq v3 v5 w' => ∃ (x3_1 : List (S76)) (x4_1 : List Int) (x5_1 : Int), v5 = .int .i64 x5_1 ∧ Aside0 (larchref05_calls.l0 kq l0 x3_1 x4_1 x5_1 = some r) ∧ Aside0 (kq ≤ k) ∧ Aside0 (Kd.S k76 76 w' w.heap.size (fun _ => True) v3 x3_1) ∧ Aside0 (Kd.R (Kd.int .i64) 3 w' w.heap.size (fun _ => True) v169 x4_1) ∧ Aside0 (Below w.heap.size w w'))
  case atStart => exact ⟨(([] : List (S76))), (y168), (0), rs, H', ⟨Nat.le_refl _⟩, ⟨by first | exact Kd.S_nil _ _ _ _ _ | exact Kd.N_nil _ _ _ _ _ | exact Kd.V_nil _ _ _ _ _ | exact Kd.Q_nil _ _ _ _ _ | exact Kd.R_nil _ _ _ _ _⟩, ⟨skR HO170.out⟩, ⟨skB HB.out⟩⟩
  case round =>
   clear H'
   try clear c2
   try clear c2b0
   try clear c2b1
   try clear p2
   obtain ⟨x3_1, x4_1, x5_1, rfl, HA, HK1, HO_3, HO_4, HB⟩ := hrel
   cases gk with
   | zero => exact absurd HA.out (by simp [larchref05_calls.l0])
   | succ k1 =>
    have H := HA.out
    clear HA
    simp only [larchref05_calls.l0] at H
    by_cases c5 : x5_1 < (l0.length : Int)
    ·
     rw [if_pos c5] at H
     have c5b0 : decide (x5_1 < (l0.length : Int)) = true := decide_eq_true c5
     clear c5
     by_cases c6 : 0 ≤ x5_1
     ·
      rw [if_pos c6] at H
      have c6b0 : decide (0 ≤ x5_1) = true := decide_eq_true c6
      clear c6
      obtain ⟨bq7, hbq7⟩ : ∃ b_ : Bool, b_ = ((J67 l0 x5_1).f1) := ⟨_, rfl⟩
      replace H : (if (bq7 = true) then (if 0 ≤ ((J67 l0 x5_1).f0) then (if ((J67 l0 x5_1).f0) < (x4_1.length : Int) then (if 0 ≤ (rd x4_1 ((J67 l0 x5_1).f0)) then (if (rd x4_1 ((J67 l0 x5_1).f0)) < (x3_1.length : Int) then ((some (x3_1.set ((rd x4_1 ((J67 l0 x5_1).f0)) : Int).toNat (⟨(J76 x3_1 (rd x4_1 ((J67 l0 x5_1).f0))).f0, (⟨(J76 x3_1 (rd x4_1 ((J67 l0 x5_1).f0))).f1.f0, (J76 x3_1 (rd x4_1 ((J67 l0 x5_1).f0))).f1.f1, (J76 x3_1 (rd x4_1 ((J67 l0 x5_1).f0))).f1.f2, (J76 x3_1 (rd x4_1 ((J67 l0 x5_1).f0))).f1.f3⟩ : S33), (⟨(J76 x3_1 (rd x4_1 ((J67 l0 x5_1).f0))).f2.f0, (J76 x3_1 (rd x4_1 ((J67 l0 x5_1).f0))).f2.f1, (J76 x3_1 (rd x4_1 ((J67 l0 x5_1).f0))).f2.f2, (J76 x3_1 (rd x4_1 ((J67 l0 x5_1).f0))).f2.f3⟩ : S36), (J76 x3_1 (rd x4_1 ((J67 l0 x5_1).f0))).f3, x5_1⟩ : S76) : List (S76))).bind fun y174 => ((larchref05_CopyRet.f ((J67 l0 x5_1).f3.f0) ((J67 l0 x5_1).f3.f1) ((J67 l0 x5_1).f3.f2) ((J67 l0 x5_1).f3.f3)).bind fun bt176 => (larchref05_calls.l0 k1 l0 (y174.set ((rd x4_1 ((J67 l0 x5_1).f0)) : Int).toNat (⟨(J76 y174 (rd x4_1 ((J67 l0 x5_1).f0))).f0, (⟨(J76 y174 (rd x4_1 ((J67 l0 x5_1).f0))).f1.f0, (J76 y174 (rd x4_1 ((J67 l0 x5_1).f0))).f1.f1, (J76 y174 (rd x4_1 ((J67 l0 x5_1).f0))).f1.f2, (J76 y174 (rd x4_1 ((J67 l0 x5_1).f0))).f1.f3⟩ : S33), (⟨bt176.1, bt176.2.1, bt176.2.2.1, bt176.2.2.2⟩ : S36), (J76 y174 (rd x4_1 ((J67 l0 x5_1).f0))).f3, (J76 y174 (rd x4_1 ((J67 l0 x5_1).f0))).f4⟩ : S76)) x4_1 (wrap64 (x5_1 + 1))))) else (none)) else (none)) else (none)) else (none)) else (if 0 ≤ ((J67 l0 x5_1).f0) then (if ((J67 l0 x5_1).f0) < (x4_1.length : Int) then (if x3_1.length < 1353245080339 then (larchref05_calls.l0 k1 l0 (x3_1 ++ [(⟨(J67 l0 x5_1).f0, (⟨(J67 l0 x5_1).f2.f0, (J67 l0 x5_1).f2.f1, (J67 l0 x5_1).f2.f2, (J67 l0 x5_1).f2.f3⟩ : S33), (⟨false, 0, 0, ([] : List (S70))⟩ : S36), x5_1, (-1)⟩ : S76)]) (x4_1.set (((J67 l0 x5_1).f0) : Int).toNat (x3_1.length : Int)) (wrap64 (x5_1 + 1))) else (none)) else (none)) else (none))) = some r := by rw [← hbq7] at H; exact H
      have Nbq7 := asd hbq7
      clear hbq7
      by_cases c8 : (bq7 = true)
      ·
       subst c8
       have H1 : (if 0 ≤ ((J67 l0 x5_1).f0) then (if ((J67 l0 x5_1).f0) < (x4_1.length : Int) then (if 0 ≤ (rd x4_1 ((J67 l0 x5_1).f0)) then (if (rd x4_1 ((J67 l0 x5_1).f0)) < (x3_1.length : Int) then ((some (x3_1.set ((rd x4_1 ((J67 l0 x5_1).f0)) : Int).toNat (⟨(J76 x3_1 (rd x4_1 ((J67 l0 x5_1).f0))).f0, (⟨(J76 x3_1 (rd x4_1 ((J67 l0 x5_1).f0))).f1.f0, (J76 x3_1 (rd x4_1 ((J67 l0 x5_1).f0))).f1.f1, (J76 x3_1 (rd x4_1 ((J67 l0 x5_1).f0))).f1.f2, (J76 x3_1 (rd x4_1 ((J67 l0 x5_1).f0))).f1.f3⟩ : S33), (⟨(J76 x3_1 (rd x4_1 ((J67 l0 x5_1).f0))).f2.f0, (J76 x3_1 (rd x4_1 ((J67 l0 x5_1).f0))).f2.f1, (J76 x3_1 (rd x4_1 ((J67 l0 x5_1).f0))).f2.f2, (J76 x3_1 (rd x4_1 ((J67 l0 x5_1).f0))).f2.f3⟩ : S36), (J76 x3_1 (rd x4_1 ((J67 l0 x5_1).f0))).f3, x5_1⟩ : S76) : List (S76))).bind fun y174 => ((larchref05_CopyRet.f ((J67 l0 x5_1).f3.f0) ((J67 l0 x5_1).f3.f1) ((J67 l0 x5_1).f3.f2) ((J67 l0 x5_1).f3.f3)).bind fun bt176 => (larchref05_calls.l0 k1 l0 (y174.set ((rd x4_1 ((J67 l0 x5_1).f0)) : Int).toNat (⟨(J76 y174 (rd x4_1 ((J67 l0 x5_1).f0))).f0, (⟨(J76 y174 (rd x4_1 ((J67 l0 x5_1).f0))).f1.f0, (J76 y174 (rd x4_1 ((J67 l0 x5_1).f0))).f1.f1, (J76 y174 (rd x4_1 ((J67 l0 x5_1).f0))).f1.f2, (J76 y174 (rd x4_1 ((J67 l0 x5_1).f0))).f1.f3⟩ : S33), (⟨bt176.1, bt176.2.1, bt176.2.2.1, bt176.2.2.2⟩ : S36), (J76 y174 (rd x4_1 ((J67 l0 x5_1).f0))).f3, (J76 y174 (rd x4_1 ((J67 l0 x5_1).f0))).f4⟩ : S76)) x4_1 (wrap64 (x5_1 + 1))))) else (none)) else (none)) else (none)) else (none)) = some r := by rw [if_pos rfl] at H; exact H
       clear H
       have H := H1
       clear H1
       by_cases c9 : 0 ≤ ((J67 l0 x5_1).f0)
       ·
        rw [if_pos c9] at H
        have c9b0 : decide (0 ≤ ((J67 l0 x5_1).f0)) = true := decide_eq_true c9
        clear c9
        by_cases c10 : ((J67 l0 x5_1).f0) < (x4_1.length : Int)
        ·
         rw [if_pos c10] at H
         have c10b0 : decide (((J67 l0 x5_1).f0) < (x4_1.length : Int)) = true := decide_eq_true c10
         clear c10
         by_cases c11 : 0 ≤ (rd x4_1 ((J67 l0 x5_1).f0))
         ·
          rw [if_pos c11] at H
          have c11b0 : decide (0 ≤ (rd x4_1 ((J67 l0 x5_1).f0))) = true := decide_eq_true c11
          clear c11
          by_cases c12 : (rd x4_1 ((J67 l0 x5_1).f0)) < (x3_1.length : Int)
          ·
           rw [if_pos c12] at H
           have c12b0 : decide ((rd x4_1 ((J67 l0 x5_1).f0)) < (x3_1.length : Int)) = true := decide_eq_true c12
           clear c12
           obtain ⟨y174, hy174⟩ : ∃ y_ : List (S76), y_ = (x3_1.set ((rd x4_1 ((J67 l0 x5_1).f0)) : Int).toNat (⟨(J76 x3_1 (rd x4_1 ((J67 l0 x5_1).f0))).f0, (⟨(J76 x3_1 (rd x4_1 ((J67 l0 x5_1).f0))).f1.f0, (J76 x3_1 (rd x4_1 ((J67 l0 x5_1).f0))).f1.f1, (J76 x3_1 (rd x4_1 ((J67 l0 x5_1).f0))).f1.f2, (J76 x3_1 (rd x4_1 ((J67 l0 x5_1).f0))).f1.f3⟩ : S33), (⟨(J76 x3_1 (rd x4_1 ((J67 l0 x5_1).f0))).f2.f0, (J76 x3_1 (rd x4_1 ((J67 l0 x5_1).f0))).f2.f1, (J76 x3_1 (rd x4_1 ((J67 l0 x5_1).f0))).f2.f2, (J76 x3_1 (rd x4_1 ((J67 l0 x5_1).f0))).f2.f3⟩ : S36), (J76 x3_1 (rd x4_1 ((J67 l0 x5_1).f0))).f3, x5_1⟩ : S76)) := ⟨_, rfl⟩
           replace H : ((larchref05_CopyRet.f ((J67 l0 x5_1).f3.f0) ((J67 l0 x5_1).f3.f1) ((J67 l0 x5_1).f3.f2) ((J67 l0 x5_1).f3.f3)).bind fun bt176 => (larchref05_calls.l0 k1 l0 (y174.set ((rd x4_1 ((J67 l0 x5_1).f0)) : Int).toNat (⟨(J76 y174 (rd x4_1 ((J67 l0 x5_1).f0))).f0, (⟨(J76 y174 (rd x4_1 ((J67 l0 x5_1).f0))).f1.f0, (J76 y174 (rd x4_1 ((J67 l0 x5_1).f0))).f1.f1, (J76 y174 (rd x4_1 ((J67 l0 x5_1).f0))).f1.f2, (J76 y174 (rd x4_1 ((J67 l0 x5_1).f0))).f1.f3⟩ : S33), (⟨bt176.1, bt176.2.1, bt176.2.2.1, bt176.2.2.2⟩ : S36), (J76 y174 (rd x4_1 ((J67 l0 x5_1).f0))).f3, (J76 y174 (rd x4_1 ((J67 l0 x5_1).f0))).f4⟩ : S76)) x4_1 (wrap64 (x5_1 + 1)))) = some r := by first | (rw [hy174]; with_reducible exact H) | (have H2_ := (Option.bind_some _ _).symm.trans H; rw [hy174]; with_reducible exact H2_) | (have H2_ := (Option.bind_some _ _).symm.trans H; with_reducible exact H2_) | with_reducible exact H | (rw [hy174]; exact H) | exact H
           have Ny174 := asd hy174
           clear hy174
           replace H := Option.bind_eq_some_iff.mp H
           obtain ⟨⟨t176, t177, t178, t179⟩, A140, H⟩ := H
           replace H : (larchref05_calls.l0 k1 l0 (y174.set ((rd x4_1 ((J67 l0 x5_1).f0)) : Int).toNat (⟨(J76 y174 (rd x4_1 ((J67 l0 x5_1).f0))).f0, (⟨(J76 y174 (rd x4_1 ((J67 l0 x5_1).f0))).f1.f0, (J76 y174 (rd x4_1 ((J67 l0 x5_1).f0))).f1.f1, (J76 y174 (rd x4_1 ((J67 l0 x5_1).f0))).f1.f2, (J76 y174 (rd x4_1 ((J67 l0 x5_1).f0))).f1.f3⟩ : S33), (⟨t176, t177, t178, t179⟩ : S36), (J76 y174 (rd x4_1 ((J67 l0 x5_1).f0))).f3, (J76 y174 (rd x4_1 ((J67 l0 x5_1).f0))).f4⟩ : S76)) x4_1 (wrap64 (x5_1 + 1))) = some r := H
           have A14 := asd A140
           clear A140
           obtain ⟨y182, hy182⟩ : ∃ y_ : List (S76), y_ = (y174.set ((rd x4_1 ((J67 l0 x5_1).f0)) : Int).toNat (⟨(J76 y174 (rd x4_1 ((J67 l0 x5_1).f0))).f0, (⟨(J76 y174 (rd x4_1 ((J67 l0 x5_1).f0))).f1.f0, (J76 y174 (rd x4_1 ((J67 l0 x5_1).f0))).f1.f1, (J76 y174 (rd x4_1 ((J67 l0 x5_1).f0))).f1.f2, (J76 y174 (rd x4_1 ((J67 l0 x5_1).f0))).f1.f3⟩ : S33), (⟨t176, t177, t178, t179⟩ : S36), (J76 y174 (rd x4_1 ((J67 l0 x5_1).f0))).f3, (J76 y174 (rd x4_1 ((J67 l0 x5_1).f0))).f4⟩ : S76)) := ⟨_, rfl⟩
           replace H : (larchref05_calls.l0 k1 l0 y182 x4_1 (wrap64 (x5_1 + 1))) = some r := by first | (rw [hy182]; with_reducible exact H) | (have H2_ := (Option.bind_some _ _).symm.trans H; rw [hy182]; with_reducible exact H2_) | (have H2_ := (Option.bind_some _ _).symm.trans H; with_reducible exact H2_) | with_reducible exact H | (rw [hy182]; exact H) | exact H
           have Ny182 := asd hy182
           clear hy182
           have H' := asd H
           clear H
           have p171 : 0 ≤ (x5_1 : Int) := dt
           have q171 : x5_1 < (l0.length : Int) := dt
           obtain ⟨ad171, A171_9, c171_9, e171, hx171_0, hx171_1, hx171_2, hx171_3, hx171_4, hx171_5, hx171_6, hx171_7, hx171_8, hx171_9, hl171_9, hi171_9⟩ := at_T67 HR0.out x5_1 p171 q171
           (try rw [← Nbq7.out] at hx171_1)
           (try rw [← Nbq7.out] at hw171_1)
           (try rw [← Nbq7.out] at hx171_6)
           (try rw [← Nbq7.out] at hw171_6)
           cases e171
           replace hx171_0 := skc HB.out hx171_0
           replace hx171_1 := skc HB.out hx171_1
           replace hx171_2 := skc HB.out hx171_2
           replace hx171_3 := skc HB.out hx171_3
           replace hx171_4 := skc HB.out hx171_4
           replace hx171_5 := skc HB.out hx171_5
           replace hx171_6 := skc HB.out hx171_6
           replace hx171_7 := skc HB.out hx171_7
           replace hx171_8 := skc HB.out hx171_8
           replace hx171_9 := skc HB.out hx171_9
           have HR171_9 := asd hi171_9
           have HC171_9 := asd hl171_9
           clear hi171_9 hl171_9
           replace p171 := eq_true p171
           replace q171 := eq_true q171
           have p172 : 0 ≤ (x5_1 : Int) := dt
           have q172 : x5_1 < (l0.length : Int) := dt
           obtain ⟨ad172, A172_9, c172_9, e172, hx172_0, hx172_1, hx172_2, hx172_3, hx172_4, hx172_5, hx172_6, hx172_7, hx172_8, hx172_9, hl172_9, hi172_9⟩ := at_T67 HR0.out x5_1 p172 q172
           (try rw [← Nbq7.out] at hx172_1)
           (try rw [← Nbq7.out] at hw172_1)
           (try rw [← Nbq7.out] at hx172_6)
           (try rw [← Nbq7.out] at hw172_6)
           obtain rfl : ad171 = ad172 := (by injection e172)
           replace hx172_0 := skc HB.out hx172_0
           replace hx172_1 := skc HB.out hx172_1
           replace hx172_2 := skc HB.out hx172_2
           replace hx172_3 := skc HB.out hx172_3
           replace hx172_4 := skc HB.out hx172_4
           replace hx172_5 := skc HB.out hx172_5
           replace hx172_6 := skc HB.out hx172_6
           replace hx172_7 := skc HB.out hx172_7
           replace hx172_8 := skc HB.out hx172_8
           replace hx172_9 := skc HB.out hx172_9
           have HR172_9 := asd hi172_9
           have HC172_9 := asd hl172_9
           clear hi172_9 hl172_9
           replace p172 := eq_true p172
           replace q172 := eq_true q172
           have ea_ := Option.some.inj (hx171_9.symm.trans hx172_9)
           injection ea_ with ea_ en_ ec_
           subst ea_
           subst ec_
           clear en_
           obtain ⟨Ao16, co16, eo16⟩ := Kd.R_slice HO_4.out
           subst eo16
           have p173 : 0 ≤ (((J67 l0 x5_1).f0) : Int) := dt
           have q173 : ((J67 l0 x5_1).f0) < (x4_1.length : Int) := dt
           obtain ⟨ad173, e173, hx173_0⟩ := Kd.at_int (Kd.R_reads' HO_4.out).2.2 ((J67 l0 x5_1).f0) p173 q173
           cases e173
           replace p173 := eq_true p173
           replace q173 := eq_true q173
           have p13 : 0 ≤ ((rd x4_1 ((J67 l0 x5_1).f0)) : Int) := dt
           have q13 : ((rd x4_1 ((J67 l0 x5_1).f0)) : Int) < ((x3_1.length : Int) : Int) := dt
           obtain ⟨go13, co13, eo13, gb13, gl13, cl13, HG13⟩ := Kd.S_form HO_3.out (by omega)
           (first | cases eo13 | (injection eo13 with ea_ en_ ec_; (first | subst ea_ | (injection ea_ with ea_; subst ea_)); subst ec_; clear en_))
           have GB13 := asd gb13
           have GG13 := asd HG13
           clear gb13 gl13 HG13
           obtain ⟨_, ce13, hcl13, hM13, hcc13, hfr13, _, _⟩ := Kd.S_elem HO_3.out z76 ((rd x4_1 ((J67 l0 x5_1).f0)) : Int) p13 q13
           obtain ⟨ve13_8, rfl, ge13_8⟩ := k76_openM hM13
           have hx13_0 : wr.cell? ⟨go13, ((rd x4_1 ((J67 l0 x5_1).f0)) : Int).toNat * 11, none⟩ = some (.int .i64 ((J76 x3_1 (rd x4_1 ((J67 l0 x5_1).f0))).f0)) := hcc13 0 _ rfl
           have hx13_1 : wr.cell? ⟨go13, ((rd x4_1 ((J67 l0 x5_1).f0)) : Int).toNat * 11 + 1, none⟩ = some (.int .i64 ((J76 x3_1 (rd x4_1 ((J67 l0 x5_1).f0))).f1.f0)) := hcc13 1 _ rfl
           have hx13_2 : wr.cell? ⟨go13, ((rd x4_1 ((J67 l0 x5_1).f0)) : Int).toNat * 11 + 2, none⟩ = some (.int .i64 ((J76 x3_1 (rd x4_1 ((J67 l0 x5_1).f0))).f1.f1)) := hcc13 2 _ rfl
           have hx13_3 : wr.cell? ⟨go13, ((rd x4_1 ((J67 l0 x5_1).f0)) : Int).toNat * 11 + 3, none⟩ = some (.int .i64 ((J76 x3_1 (rd x4_1 ((J67 l0 x5_1).f0))).f1.f2)) := hcc13 3 _ rfl
           have hx13_4 : wr.cell? ⟨go13, ((rd x4_1 ((J67 l0 x5_1).f0)) : Int).toNat * 11 + 4, none⟩ = some (.int .i64 ((J76 x3_1 (rd x4_1 ((J67 l0 x5_1).f0))).f1.f3)) := hcc13 4 _ rfl
           have hx13_5 : wr.cell? ⟨go13, ((rd x4_1 ((J67 l0 x5_1).f0)) : Int).toNat * 11 + 5, none⟩ = some (.bool ((J76 x3_1 (rd x4_1 ((J67 l0 x5_1).f0))).f2.f0)) := hcc13 5 _ rfl
           have hx13_6 : wr.cell? ⟨go13, ((rd x4_1 ((J67 l0 x5_1).f0)) : Int).toNat * 11 + 6, none⟩ = some (.int .i64 ((J76 x3_1 (rd x4_1 ((J67 l0 x5_1).f0))).f2.f1)) := hcc13 6 _ rfl
           have hx13_7 : wr.cell? ⟨go13, ((rd x4_1 ((J67 l0 x5_1).f0)) : Int).toNat * 11 + 7, none⟩ = some (.int .i64 ((J76 x3_1 (rd x4_1 ((J67 l0 x5_1).f0))).f2.f2)) := hcc13 7 _ rfl
           have hx13_8 : wr.cell? ⟨go13, ((rd x4_1 ((J67 l0 x5_1).f0)) : Int).toNat * 11 + 8, none⟩ = some (ve13_8) := hcc13 8 _ rfl
           have hx13_9 : wr.cell? ⟨go13, ((rd x4_1 ((J67 l0 x5_1).f0)) : Int).toNat * 11 + 9, none⟩ = some (.int .i64 ((J76 x3_1 (rd x4_1 ((J67 l0 x5_1).f0))).f3)) := hcc13 9 _ rfl
           have hx13_10 : wr.cell? ⟨go13, ((rd x4_1 ((J67 l0 x5_1).f0)) : Int).toNat * 11 + 10, none⟩ = some (.int .i64 ((J76 x3_1 (rd x4_1 ((J67 l0 x5_1).f0))).f4)) := hcc13 10 _ rfl
           have hf13_0 : wr.frozen? ⟨go13, ((rd x4_1 ((J67 l0 x5_1).f0)) : Int).toNat * 11, none⟩ = false := hfr13 0
           have hf13_1 : wr.frozen? ⟨go13, ((rd x4_1 ((J67 l0 x5_1).f0)) : Int).toNat * 11 + 1, none⟩ = false := hfr13 1
           have hf13_2 : wr.frozen? ⟨go13, ((rd x4_1 ((J67 l0 x5_1).f0)) : Int).toNat * 11 + 2, none⟩ = false := hfr13 2
           have hf13_3 : wr.frozen? ⟨go13, ((rd x4_1 ((J67 l0 x5_1).f0)) : Int).toNat * 11 + 3, none⟩ = false := hfr13 3
           have hf13_4 : wr.frozen? ⟨go13, ((rd x4_1 ((J67 l0 x5_1).f0)) : Int).toNat * 11 + 4, none⟩ = false := hfr13 4
           have hf13_5 : wr.frozen? ⟨go13, ((rd x4_1 ((J67 l0 x5_1).f0)) : Int).toNat * 11 + 5, none⟩ = false := hfr13 5
           have hf13_6 : wr.frozen? ⟨go13, ((rd x4_1 ((J67 l0 x5_1).f0)) : Int).toNat * 11 + 6, none⟩ = false := hfr13 6
           have hf13_7 : wr.frozen? ⟨go13, ((rd x4_1 ((J67 l0 x5_1).f0)) : Int).toNat * 11 + 7, none⟩ = false := hfr13 7
           have hf13_8 : wr.frozen? ⟨go13, ((rd x4_1 ((J67 l0 x5_1).f0)) : Int).toNat * 11 + 8, none⟩ = false := hfr13 8
           have hf13_9 : wr.frozen? ⟨go13, ((rd x4_1 ((J67 l0 x5_1).f0)) : Int).toNat * 11 + 9, none⟩ = false := hfr13 9
           have hf13_10 : wr.frozen? ⟨go13, ((rd x4_1 ((J67 l0 x5_1).f0)) : Int).toNat * 11 + 10, none⟩ = false := hfr13 10
           clear hcl13 hcc13 hfr13 hM13
           replace p13 := eq_true p13
           replace q13 := eq_true q13
           have HX17 := asd (show Kd.S k76 76 wr w.heap.size (fun k_ => ((fun _ => True)) k_ ∧ ¬ ((fun _ => False)) k_) (.slice (some ⟨go13, 0, none⟩) x3_1.length co13) x3_1 from (by (with_reducible repeat (first | apply Kd.S_alloc | apply Kd.S_drewN | apply Kd.S_drew)); exact Kd.S_mono HO_3.out (fun k_ hk => ⟨trivial, fun e_ => e_⟩)))
           obtain ⟨oki17, ce17, hcl17, hM17, hcc17, hfr17, hoki17, hH17⟩ := Kd.S_elem HX17.out z76 ((rd x4_1 ((J67 l0 x5_1).f0)) : Int) dt (by have h_ : ((rd x4_1 ((J67 l0 x5_1).f0)) : Int) < ((x3_1.length : Int) : Int) := dt; first | exact h_ | (have e_ := (Kd.S_reads' HO_3.out).1; omega) | simpa using h_)
           obtain ⟨ve17_8, rfl, ge17_8⟩ := k76_openM hM17
           have HP17 := Kd.S_seg hH17 dt (by have h_ : ((rd x4_1 ((J67 l0 x5_1).f0)) : Int) < ((x3_1.length : Int) : Int) := dt; first | exact h_ | (have e_ := (Kd.S_reads' HO_3.out).1; omega) | simpa using h_) (seg := [.int .i64 x5_1]) (j := 10) (show 11 ≤ 11 from by decide) (x' := (⟨(J76 x3_1 (rd x4_1 ((J67 l0 x5_1).f0))).f0, (⟨(J76 x3_1 (rd x4_1 ((J67 l0 x5_1).f0))).f1.f0, (J76 x3_1 (rd x4_1 ((J67 l0 x5_1).f0))).f1.f1, (J76 x3_1 (rd x4_1 ((J67 l0 x5_1).f0))).f1.f2, (J76 x3_1 (rd x4_1 ((J67 l0 x5_1).f0))).f1.f3⟩ : S33), (⟨(J76 x3_1 (rd x4_1 ((J67 l0 x5_1).f0))).f2.f0, (J76 x3_1 (rd x4_1 ((J67 l0 x5_1).f0))).f2.f1, (J76 x3_1 (rd x4_1 ((J67 l0 x5_1).f0))).f2.f2, (J76 x3_1 (rd x4_1 ((J67 l0 x5_1).f0))).f2.f3⟩ : S36), (J76 x3_1 (rd x4_1 ((J67 l0 x5_1).f0))).f3, x5_1⟩ : S76)) (k76_mkM _ _ _ (⟨(J76 x3_1 (rd x4_1 ((J67 l0 x5_1).f0))).f0, (⟨(J76 x3_1 (rd x4_1 ((J67 l0 x5_1).f0))).f1.f0, (J76 x3_1 (rd x4_1 ((J67 l0 x5_1).f0))).f1.f1, (J76 x3_1 (rd x4_1 ((J67 l0 x5_1).f0))).f1.f2, (J76 x3_1 (rd x4_1 ((J67 l0 x5_1).f0))).f1.f3⟩ : S33), (⟨(J76 x3_1 (rd x4_1 ((J67 l0 x5_1).f0))).f2.f0, (J76 x3_1 (rd x4_1 ((J67 l0 x5_1).f0))).f2.f1, (J76 x3_1 (rd x4_1 ((J67 l0 x5_1).f0))).f2.f2, (J76 x3_1 (rd x4_1 ((J67 l0 x5_1).f0))).f2.f3⟩ : S36), (J76 x3_1 (rd x4_1 ((J67 l0 x5_1).f0))).f3, x5_1⟩ : S76) (Kd.R_mono ge17_8 (fun _ h_ => Or.inl h_))) (fun _ hk => hk) (fun k_ hk_ => hk_.elim)
           have hx17_10 := hcc17 10 _ rfl
           (try simp only [show (k76).sz = 11 from rfl, Nat.mul_one, Nat.add_zero] at hx17_10)
           have hf17_10 := hfr17 10
           (try simp only [show (k76).sz = 11 from rfl, Nat.mul_one, Nat.add_zero] at hf17_10)
           clear hcl17 hcc17 hfr17 hM17 hoki17 hH17
           go_wp2_with (first | ((with_reducible refine gate_store (t := 3) (p := 56) rfl ?_); refine store_event (t := 3) (p := 56) (v := ?vo_w18) (w1 := (wr.setCell ⟨go13, ((rd x4_1 ((J67 l0 x5_1).f0)) : Int).toNat * 11 + 10, none⟩ (.int .i64 x5_1))) ?hg ?ho ?hn ?hr ?_; (case ho => rfl); (case hg => rfl); (case hn => rfl); (case hr => first | (go_simp; done) | (go_simp; rfl)); intro w18 hw; have hg : wr.grownBy w18 (some go13) := (by rw [hw]; exact HP17.2); have hp_ : Kd.S k76 76 w18 w.heap.size (fun _ => True) (.slice (some ⟨go13, 0, none⟩) x3_1.length co13) y174 := (by rw [hw, Ny174.out]; exact HP17.1); clear HP17; have n0_ := asd (hp_); have n1_ := asd (Kd.R_over' (v := (.slice (some ⟨go13, 0, none⟩) x3_1.length co13)) (skR HO_4.out) (Kd.S_typed HO_3.out) (by decide) hg); have n2_ := asd ((by rw [hw]; exact below_set (HB.out) GB13.out : Below w.heap.size w w18)); clear HO_3; clear HO_4; clear HB; have HO_3 := n0_; have HO_4 := n1_; have HB := n2_; clear n0_ n1_ n2_; clear hg hw hp_; have p175 : 0 ≤ (x5_1 : Int) := dt; have q175 : x5_1 < (l0.length : Int) := dt; obtain ⟨ad175, A175_9, c175_9, e175, hx175_0, hx175_1, hx175_2, hx175_3, hx175_4, hx175_5, hx175_6, hx175_7, hx175_8, hx175_9, hl175_9, hi175_9⟩ := at_T67 HR0.out x5_1 p175 q175; (try rw [← Nbq7.out] at hx175_1); (try rw [← Nbq7.out] at hx175_6); obtain rfl : ad171 = ad175 := (by injection e175); replace hx175_0 := skc HB.out hx175_0; replace hx175_1 := skc HB.out hx175_1; replace hx175_2 := skc HB.out hx175_2; replace hx175_3 := skc HB.out hx175_3; replace hx175_4 := skc HB.out hx175_4; replace hx175_5 := skc HB.out hx175_5; replace hx175_6 := skc HB.out hx175_6; replace hx175_7 := skc HB.out hx175_7; replace hx175_8 := skc HB.out hx175_8; replace hx175_9 := skc HB.out hx175_9; have HR175_9 := asd hi175_9; have HC175_9 := asd hl175_9; clear hi175_9 hl175_9; replace p175 := eq_true p175; replace q175 := eq_true q175) | ((with_reducible refine gate_callee (f := 65) rfl ?_); refine goesL_ (some 64) rfl rfl Try.func65 (by kernel_rfl) rfl #[.agg #[.bool ((J67 l0 x5_1).f3.f0), .int .i64 ((J67 l0 x5_1).f3.f1), .int .i64 ((J67 l0 x5_1).f3.f2), .slice A175_9 ((J67 l0 x5_1).f3.f3).length c175_9]] rfl ags ?_; (with_reducible refine (larchref05_CopyRet.calls ((J67 l0 x5_1).f3.f0) ((J67 l0 x5_1).f3.f1) ((J67 l0 x5_1).f3.f2) _ _ ((J67 l0 x5_1).f3.f3) t176 t177 t178 t179 _ ?side1 ?side2 A14.out).mono ?_); (case side1 => exact skC (Kd.C_below HR175_9.out HB.out)); (case side2 => exact HC175_9.out); rintro e w19 ⟨v180, rfl, ho0, hb⟩; obtain ⟨Av180, cv180, rfl⟩ := Kd.R_slice ho0; refine ⟨_, rfl, ?_⟩; have n0_ := asd (Kd.S_elder' (by (with_reducible repeat (first | apply Kd.S_alloc | apply Kd.S_drewN | apply Kd.S_drew)); exact HO_3.out) (Kd.R_base ho0) hb); have n1_ := asd (Kd.R_below (skR HO_4.out) hb); have n2_ := asd (Kd.R_lower ho0 (below_size (skB HB.out))); have n3_ := asd (below_step (skB HB.out) hb); clear HO_3; clear HO_4; clear HB; have HO_3 := n0_; have HO_4 := n1_; have HO181 := n2_; have HB := n3_; clear n0_ n1_ n2_ n3_; (try clear hb); (try clear hb2); (try clear hk); (try clear hi); (try clear ho0); have p15 : 0 ≤ ((rd x4_1 ((J67 l0 x5_1).f0)) : Int) := dt; have q15 : ((rd x4_1 ((J67 l0 x5_1).f0)) : Int) < ((x3_1.length : Int) : Int) := dt; obtain ⟨_, ce15, hcl15, hM15, hcc15, hfr15, _, _⟩ := Kd.S_elem HO_3.out z76 ((rd x4_1 ((J67 l0 x5_1).f0)) : Int) p15 q15; obtain ⟨ve15_8, rfl, ge15_8⟩ := k76_openM hM15; have hx15_0 : w19.cell? ⟨go13, ((rd x4_1 ((J67 l0 x5_1).f0)) : Int).toNat * 11, none⟩ = some (.int .i64 ((J76 y174 (rd x4_1 ((J67 l0 x5_1).f0))).f0)) := hcc15 0 _ rfl; have hx15_1 : w19.cell? ⟨go13, ((rd x4_1 ((J67 l0 x5_1).f0)) : Int).toNat * 11 + 1, none⟩ = some (.int .i64 ((J76 y174 (rd x4_1 ((J67 l0 x5_1).f0))).f1.f0)) := hcc15 1 _ rfl; have hx15_2 : w19.cell? ⟨go13, ((rd x4_1 ((J67 l0 x5_1).f0)) : Int).toNat * 11 + 2, none⟩ = some (.int .i64 ((J76 y174 (rd x4_1 ((J67 l0 x5_1).f0))).f1.f1)) := hcc15 2 _ rfl; have hx15_3 : w19.cell? ⟨go13, ((rd x4_1 ((J67 l0 x5_1).f0)) : Int).toNat * 11 + 3, none⟩ = some (.int .i64 ((J76 y174 (rd x4_1 ((J67 l0 x5_1).f0))).f1.f2)) := hcc15 3 _ rfl; have hx15_4 : w19.cell? ⟨go13, ((rd x4_1 ((J67 l0 x5_1).f0)) : Int).toNat * 11 + 4, none⟩ = some (.int .i64 ((J76 y174 (rd x4_1 ((J67 l0 x5_1).f0))).f1.f3)) := hcc15 4 _ rfl; have hx15_5 : w19.cell? ⟨go13, ((rd x4_1 ((J67 l0 x5_1).f0)) : Int).toNat * 11 + 5, none⟩ = some (.bool ((J76 y174 (rd x4_1 ((J67 l0 x5_1).f0))).f2.f0)) := hcc15 5 _ rfl; have hx15_6 : w19.cell? ⟨go13, ((rd x4_1 ((J67 l0 x5_1).f0)) : Int).toNat * 11 + 6, none⟩ = some (.int .i64 ((J76 y174 (rd x4_1 ((J67 l0 x5_1).f0))).f2.f1)) := hcc15 6 _ rfl; have hx15_7 : w19.cell? ⟨go13, ((rd x4_1 ((J67 l0 x5_1).f0)) : Int).toNat * 11 + 7, none⟩ = some (.int .i64 ((J76 y174 (rd x4_1 ((J67 l0 x5_1).f0))).f2.f2)) := hcc15 7 _ rfl; have hx15_8 : w19.cell? ⟨go13, ((rd x4_1 ((J67 l0 x5_1).f0)) : Int).toNat * 11 + 8, none⟩ = some (ve15_8) := hcc15 8 _ rfl; have hx15_9 : w19.cell? ⟨go13, ((rd x4_1 ((J67 l0 x5_1).f0)) : Int).toNat * 11 + 9, none⟩ = some (.int .i64 ((J76 y174 (rd x4_1 ((J67 l0 x5_1).f0))).f3)) := hcc15 9 _ rfl; have hx15_10 : w19.cell? ⟨go13, ((rd x4_1 ((J67 l0 x5_1).f0)) : Int).toNat * 11 + 10, none⟩ = some (.int .i64 ((J76 y174 (rd x4_1 ((J67 l0 x5_1).f0))).f4)) := hcc15 10 _ rfl; have hf15_0 : w19.frozen? ⟨go13, ((rd x4_1 ((J67 l0 x5_1).f0)) : Int).toNat * 11, none⟩ = false := hfr15 0; have hf15_1 : w19.frozen? ⟨go13, ((rd x4_1 ((J67 l0 x5_1).f0)) : Int).toNat * 11 + 1, none⟩ = false := hfr15 1; have hf15_2 : w19.frozen? ⟨go13, ((rd x4_1 ((J67 l0 x5_1).f0)) : Int).toNat * 11 + 2, none⟩ = false := hfr15 2; have hf15_3 : w19.frozen? ⟨go13, ((rd x4_1 ((J67 l0 x5_1).f0)) : Int).toNat * 11 + 3, none⟩ = false := hfr15 3; have hf15_4 : w19.frozen? ⟨go13, ((rd x4_1 ((J67 l0 x5_1).f0)) : Int).toNat * 11 + 4, none⟩ = false := hfr15 4; have hf15_5 : w19.frozen? ⟨go13, ((rd x4_1 ((J67 l0 x5_1).f0)) : Int).toNat * 11 + 5, none⟩ = false := hfr15 5; have hf15_6 : w19.frozen? ⟨go13, ((rd x4_1 ((J67 l0 x5_1).f0)) : Int).toNat * 11 + 6, none⟩ = false := hfr15 6; have hf15_7 : w19.frozen? ⟨go13, ((rd x4_1 ((J67 l0 x5_1).f0)) : Int).toNat * 11 + 7, none⟩ = false := hfr15 7; have hf15_8 : w19.frozen? ⟨go13, ((rd x4_1 ((J67 l0 x5_1).f0)) : Int).toNat * 11 + 8, none⟩ = false := hfr15 8; have hf15_9 : w19.frozen? ⟨go13, ((rd x4_1 ((J67 l0 x5_1).f0)) : Int).toNat * 11 + 9, none⟩ = false := hfr15 9; have hf15_10 : w19.frozen? ⟨go13, ((rd x4_1 ((J67 l0 x5_1).f0)) : Int).toNat * 11 + 10, none⟩ = false := hfr15 10; clear hcl15 hcc15 hfr15 hM15; replace p15 := eq_true p15; replace q15 := eq_true q15; have n_ := asd (Kd.S_mono (ok' := (fun k_ => some k_ ≠ ((.slice Av180 t179.length cv180 : Value) : Value).ownBlock)) HO_3.out (fun k_ hk => hk.2)); clear HO_3; have HO_3 := n_; clear n_; have HX20 := asd (show Kd.S k76 76 w19 w.heap.size (fun k_ => ((fun _ => True)) k_ ∧ ¬ ((fun k_ => some k_ = ((.slice Av180 t179.length cv180 : Value) : Value).ownBlock)) k_) (.slice (some ⟨go13, 0, none⟩) x3_1.length co13) y174 from (by (with_reducible repeat (first | apply Kd.S_alloc | apply Kd.S_drewN | apply Kd.S_drew)); exact Kd.S_mono HO_3.out (fun k_ hk => ⟨trivial, fun e_ => hk e_⟩))); obtain ⟨oki20, ce20, hcl20, hM20, hcc20, hfr20, hoki20, hH20⟩ := Kd.S_elem HX20.out z76 ((rd x4_1 ((J67 l0 x5_1).f0)) : Int) dt (by have h_ : ((rd x4_1 ((J67 l0 x5_1).f0)) : Int) < ((x3_1.length : Int) : Int) := dt; first | exact h_ | (have e_ := (Kd.S_reads' HO_3.out).1; omega) | simpa using h_); obtain ⟨ve20_8, rfl, ge20_8⟩ := k76_openM hM20; have HP20 := Kd.S_seg hH20 dt (by have h_ : ((rd x4_1 ((J67 l0 x5_1).f0)) : Int) < ((x3_1.length : Int) : Int) := dt; first | exact h_ | (have e_ := (Kd.S_reads' HO_3.out).1; omega) | simpa using h_) (seg := [.bool t176, .int .i64 t177, .int .i64 t178, (.slice Av180 t179.length cv180 : Value)]) (j := 5) (show 9 ≤ 11 from by decide) (x' := (⟨(J76 y174 (rd x4_1 ((J67 l0 x5_1).f0))).f0, (⟨(J76 y174 (rd x4_1 ((J67 l0 x5_1).f0))).f1.f0, (J76 y174 (rd x4_1 ((J67 l0 x5_1).f0))).f1.f1, (J76 y174 (rd x4_1 ((J67 l0 x5_1).f0))).f1.f2, (J76 y174 (rd x4_1 ((J67 l0 x5_1).f0))).f1.f3⟩ : S33), (⟨t176, t177, t178, t179⟩ : S36), (J76 y174 (rd x4_1 ((J67 l0 x5_1).f0))).f3, (J76 y174 (rd x4_1 ((J67 l0 x5_1).f0))).f4⟩ : S76)) (k76_mkM _ _ _ (⟨(J76 y174 (rd x4_1 ((J67 l0 x5_1).f0))).f0, (⟨(J76 y174 (rd x4_1 ((J67 l0 x5_1).f0))).f1.f0, (J76 y174 (rd x4_1 ((J67 l0 x5_1).f0))).f1.f1, (J76 y174 (rd x4_1 ((J67 l0 x5_1).f0))).f1.f2, (J76 y174 (rd x4_1 ((J67 l0 x5_1).f0))).f1.f3⟩ : S33), (⟨t176, t177, t178, t179⟩ : S36), (J76 y174 (rd x4_1 ((J67 l0 x5_1).f0))).f3, (J76 y174 (rd x4_1 ((J67 l0 x5_1).f0))).f4⟩ : S76) (Kd.R_mono (Kd.R_tight rfl (Kd.R_mono (ok' := fun k_ => ((fun _ => True)) k_ ∧ k_ ≠ go13) (Kd.R_apart' (HO181.out) (Kd.S_typed HO_3.out) (by decide)) (fun k_ hk => ⟨trivial, fun e_ => (hk.2) (by rw [e_]; rfl)⟩))) (fun _ h_ => Or.inr (h_)))) (fun _ hk => hk) (fun k_ hk_ => ((Kd.R_mono (ok' := fun k_ => ((fun _ => True)) k_ ∧ k_ ≠ go13) (Kd.R_apart' (HO181.out) (Kd.S_typed HO_3.out) (by decide)) (fun k_ hk => ⟨trivial, fun e_ => (hk.2) (by rw [e_]; rfl)⟩))).1 k_ hk_.symm); have hx20_5 := hcc20 5 _ rfl; (try simp only [show (k76).sz = 11 from rfl, Nat.mul_one, Nat.add_zero] at hx20_5); have hf20_5 := hfr20 5; (try simp only [show (k76).sz = 11 from rfl, Nat.mul_one, Nat.add_zero] at hf20_5); have hx20_6 := hcc20 6 _ rfl; (try simp only [show (k76).sz = 11 from rfl, Nat.mul_one, Nat.add_zero] at hx20_6); have hf20_6 := hfr20 6; (try simp only [show (k76).sz = 11 from rfl, Nat.mul_one, Nat.add_zero] at hf20_6); have hx20_7 := hcc20 7 _ rfl; (try simp only [show (k76).sz = 11 from rfl, Nat.mul_one, Nat.add_zero] at hx20_7); have hf20_7 := hfr20 7; (try simp only [show (k76).sz = 11 from rfl, Nat.mul_one, Nat.add_zero] at hf20_7); have hx20_8 := hcc20 8 _ rfl; (try simp only [show (k76).sz = 11 from rfl, Nat.mul_one, Nat.add_zero] at hx20_8); have hf20_8 := hfr20 8; (try simp only [show (k76).sz = 11 from rfl, Nat.mul_one, Nat.add_zero] at hf20_8); clear hcl20 hcc20 hfr20 hM20 hoki20 hH20) | ((with_reducible refine gate_store (t := 36) (p := 66) rfl ?_); refine store_event (t := 36) (p := 66) (v := ?vo_w21) (w1 := ((((w19.setCell ⟨go13, ((rd x4_1 ((J67 l0 x5_1).f0)) : Int).toNat * 11 + 5, none⟩ (.bool t176)).setCell ⟨go13, ((rd x4_1 ((J67 l0 x5_1).f0)) : Int).toNat * 11 + 6, none⟩ (.int .i64 t177)).setCell ⟨go13, ((rd x4_1 ((J67 l0 x5_1).f0)) : Int).toNat * 11 + 7, none⟩ (.int .i64 t178)).setCell ⟨go13, ((rd x4_1 ((J67 l0 x5_1).f0)) : Int).toNat * 11 + 8, none⟩ ((.slice Av180 t179.length cv180 : Value)))) ?hg ?ho ?hn ?hr ?_; (case ho => rfl); (case hg => rfl); (case hn => rfl); (case hr => first | (go_simp; done) | (go_simp; rfl)); intro w21 hw; have hg : w19.grownBy w21 (some go13) := (by rw [hw]; exact HP20.2); have hp_ : Kd.S k76 76 w21 w.heap.size (fun _ => True) (.slice (some ⟨go13, 0, none⟩) x3_1.length co13) y182 := (by rw [hw, Ny182.out]; exact HP20.1); clear HP20; have n0_ := asd (hp_); have n1_ := asd (Kd.R_over' (v := (.slice (some ⟨go13, 0, none⟩) x3_1.length co13)) (skR HO_4.out) (Kd.S_typed HO_3.out) (by decide) hg); have n2_ := asd ((by rw [hw]; exact below_set (below_set (below_set (below_set (HB.out) GB13.out) GB13.out) GB13.out) GB13.out : Below w.heap.size w w21)); clear HO_3; clear HO_4; clear HB; clear HO181; have HO_3 := n0_; have HO_4 := n1_; have HB := n2_; clear n0_ n1_ n2_; clear hg hw hp_))
           go_roundg k1
           case measure => have := HK1.out; omega
           case rel => exact ⟨(y182), (x4_1), (wrap64 (x5_1 + 1)), rs, H', ⟨by have := HK1.out; omega⟩, ⟨by (with_reducible repeat (first | apply Kd.S_alloc | apply Kd.S_drewN | apply Kd.S_drew)); exact HO_3.out⟩, ⟨skR HO_4.out⟩, ⟨skB HB.out⟩⟩
          ·
           rw [if_neg c12] at H
           exact absurd H (by simp)
         ·
          rw [if_neg c11] at H
          exact absurd H (by simp)
        ·
         rw [if_neg c10] at H
         exact absurd H (by simp)
       ·
        rw [if_neg c9] at H
        exact absurd H (by simp)
      ·
       replace c8 := Bool.eq_false_iff.mpr c8
       subst c8
       have H1 : (if 0 ≤ ((J67 l0 x5_1).f0) then (if ((J67 l0 x5_1).f0) < (x4_1.length : Int) then (if x3_1.length < 1353245080339 then (larchref05_calls.l0 k1 l0 (x3_1 ++ [(⟨(J67 l0 x5_1).f0, (⟨(J67 l0 x5_1).f2.f0, (J67 l0 x5_1).f2.f1, (J67 l0 x5_1).f2.f2, (J67 l0 x5_1).f2.f3⟩ : S33), (⟨false, 0, 0, ([] : List (S70))⟩ : S36), x5_1, (-1)⟩ : S76)]) (x4_1.set (((J67 l0 x5_1).f0) : Int).toNat (x3_1.length : Int)) (wrap64 (x5_1 + 1))) else (none)) else (none)) else (none)) = some r := by rw [if_neg (show ¬ (false = true) by decide)] at H; exact H
       clear H
       have H := H1
       clear H1
       by_cases c22 : 0 ≤ ((J67 l0 x5_1).f0)
       ·
        rw [if_pos c22] at H
        have c22b0 : decide (0 ≤ ((J67 l0 x5_1).f0)) = true := decide_eq_true c22
        clear c22
        by_cases c23 : ((J67 l0 x5_1).f0) < (x4_1.length : Int)
        ·
         rw [if_pos c23] at H
         have c23b0 : decide (((J67 l0 x5_1).f0) < (x4_1.length : Int)) = true := decide_eq_true c23
         clear c23
         obtain ⟨y184, hy184⟩ : ∃ y_ : List Int, y_ = (x4_1.set (((J67 l0 x5_1).f0) : Int).toNat (x3_1.length : Int)) := ⟨_, rfl⟩
         replace H : (if x3_1.length < 1353245080339 then (larchref05_calls.l0 k1 l0 (x3_1 ++ [(⟨(J67 l0 x5_1).f0, (⟨(J67 l0 x5_1).f2.f0, (J67 l0 x5_1).f2.f1, (J67 l0 x5_1).f2.f2, (J67 l0 x5_1).f2.f3⟩ : S33), (⟨false, 0, 0, ([] : List (S70))⟩ : S36), x5_1, (-1)⟩ : S76)]) y184 (wrap64 (x5_1 + 1))) else (none)) = some r := by first | (rw [hy184]; with_reducible exact H) | (have H2_ := (Option.bind_some _ _).symm.trans H; rw [hy184]; with_reducible exact H2_) | (have H2_ := (Option.bind_some _ _).symm.trans H; with_reducible exact H2_) | with_reducible exact H | (rw [hy184]; exact H) | exact H
         have Ny184 := asd hy184
         clear hy184
         by_cases c25 : x3_1.length < 1353245080339
         ·
          rw [if_pos c25] at H
          have LMc25 := asd c25
          clear c25
          obtain ⟨y187, hy187⟩ : ∃ y_ : List (S76), y_ = (x3_1 ++ [(⟨(J67 l0 x5_1).f0, (⟨(J67 l0 x5_1).f2.f0, (J67 l0 x5_1).f2.f1, (J67 l0 x5_1).f2.f2, (J67 l0 x5_1).f2.f3⟩ : S33), (⟨false, 0, 0, ([] : List (S70))⟩ : S36), x5_1, (-1)⟩ : S76)]) := ⟨_, rfl⟩
          replace H : (larchref05_calls.l0 k1 l0 y187 y184 (wrap64 (x5_1 + 1))) = some r := by first | (rw [hy187]; with_reducible exact H) | (have H2_ := (Option.bind_some _ _).symm.trans H; rw [hy187]; with_reducible exact H2_) | (have H2_ := (Option.bind_some _ _).symm.trans H; with_reducible exact H2_) | with_reducible exact H | (rw [hy187]; exact H) | exact H
          have Ny187 := asd hy187
          clear hy187
          have H' := asd H
          clear H
          have p171 : 0 ≤ (x5_1 : Int) := dt
          have q171 : x5_1 < (l0.length : Int) := dt
          obtain ⟨ad171, A171_9, c171_9, e171, hx171_0, hx171_1, hx171_2, hx171_3, hx171_4, hx171_5, hx171_6, hx171_7, hx171_8, hx171_9, hl171_9, hi171_9⟩ := at_T67 HR0.out x5_1 p171 q171
          (try rw [← Nbq7.out] at hx171_1)
          (try rw [← Nbq7.out] at hw171_1)
          (try rw [← Nbq7.out] at hx171_6)
          (try rw [← Nbq7.out] at hw171_6)
          cases e171
          replace hx171_0 := skc HB.out hx171_0
          replace hx171_1 := skc HB.out hx171_1
          replace hx171_2 := skc HB.out hx171_2
          replace hx171_3 := skc HB.out hx171_3
          replace hx171_4 := skc HB.out hx171_4
          replace hx171_5 := skc HB.out hx171_5
          replace hx171_6 := skc HB.out hx171_6
          replace hx171_7 := skc HB.out hx171_7
          replace hx171_8 := skc HB.out hx171_8
          replace hx171_9 := skc HB.out hx171_9
          have HR171_9 := asd hi171_9
          have HC171_9 := asd hl171_9
          clear hi171_9 hl171_9
          replace p171 := eq_true p171
          replace q171 := eq_true q171
          have p183 : 0 ≤ (x5_1 : Int) := dt
          have q183 : x5_1 < (l0.length : Int) := dt
          obtain ⟨ad183, A183_9, c183_9, e183, hx183_0, hx183_1, hx183_2, hx183_3, hx183_4, hx183_5, hx183_6, hx183_7, hx183_8, hx183_9, hl183_9, hi183_9⟩ := at_T67 HR0.out x5_1 p183 q183
          (try rw [← Nbq7.out] at hx183_1)
          (try rw [← Nbq7.out] at hw183_1)
          (try rw [← Nbq7.out] at hx183_6)
          (try rw [← Nbq7.out] at hw183_6)
          obtain rfl : ad171 = ad183 := (by injection e183)
          replace hx183_0 := skc HB.out hx183_0
          replace hx183_1 := skc HB.out hx183_1
          replace hx183_2 := skc HB.out hx183_2
          replace hx183_3 := skc HB.out hx183_3
          replace hx183_4 := skc HB.out hx183_4
          replace hx183_5 := skc HB.out hx183_5
          replace hx183_6 := skc HB.out hx183_6
          replace hx183_7 := skc HB.out hx183_7
          replace hx183_8 := skc HB.out hx183_8
          replace hx183_9 := skc HB.out hx183_9
          have HR183_9 := asd hi183_9
          have HC183_9 := asd hl183_9
          clear hi183_9 hl183_9
          replace p183 := eq_true p183
          replace q183 := eq_true q183
          have ea_ := Option.some.inj (hx171_9.symm.trans hx183_9)
          injection ea_ with ea_ en_ ec_
          subst ea_
          subst ec_
          clear en_
          obtain ⟨Ao26, co26, eo26⟩ := Kd.S_slice HO_3.out
          subst eo26
          have p24 : 0 ≤ (((J67 l0 x5_1).f0) : Int) := dt
          have q24 : (((J67 l0 x5_1).f0) : Int) < ((x4_1.length : Int) : Int) := dt
          obtain ⟨go24, co24, eo24, gb24, gl24, cl24, HG24⟩ := Kd.R_form HO_4.out (by omega)
          (first | cases eo24 | (injection eo24 with ea_ en_ ec_; (first | subst ea_ | (injection ea_ with ea_; subst ea_)); subst ec_; clear en_))
          have GB24 := asd gb24
          have GG24 := asd HG24
          clear gb24 gl24 HG24
          obtain ⟨hx24_0, hf24_0⟩ := Kd.R_celln 0 HO_4.out (((J67 l0 x5_1).f0) : Int) p24 q24
          replace p24 := eq_true p24
          replace q24 := eq_true q24
          have HP27 := Kd.R_putg HO_4.out (((J67 l0 x5_1).f0) : Int) (x3_1.length : Int)
          try go_wp2_with (first | ((with_reducible refine gate_store (t := 3) (p := 28) rfl ?_); refine store_event (t := 3) (p := 28) (v := ?vo_w28) (w1 := (wr.setCell ⟨go24, (((J67 l0 x5_1).f0) : Int).toNat, none⟩ (.int .i64 (x3_1.length : Int)))) ?hg ?ho ?hn ?hr ?_; (case ho => rfl); (case hg => rfl); (case hn => rfl); (case hr => first | (go_simp; done) | (go_simp; rfl)); intro w28 hw; have hg : wr.grownBy w28 (some go24) := (by rw [hw]; exact HP27.2); have hp_ : Kd.R (Kd.int .i64) 3 w28 w.heap.size (fun _ => True) (.slice (some ⟨go24, 0, none⟩) x4_1.length co24) y184 := (by rw [hw, Ny184.out]; exact HP27.1); clear HP27; have n0_ := asd (Kd.S_over' (v := (.slice (some ⟨go24, 0, none⟩) x4_1.length co24)) (by (with_reducible repeat (first | apply Kd.S_alloc | apply Kd.S_drewN | apply Kd.S_drew)); exact HO_3.out) (Kd.R_typed HO_4.out) (by decide) hg); have n1_ := asd (hp_); have n2_ := asd ((by rw [hw]; exact below_set (HB.out) GB24.out : Below w.heap.size w w28)); clear HO_3; clear HO_4; clear HB; have HO_3 := n0_; have HO_4 := n1_; have HB := n2_; clear n0_ n1_ n2_; clear hg hw hp_))
          have n0_ := asd (Kd.S_drew HO_3.out)
          have n1_ := asd (Kd.R_drew HO_4.out)
          have n2_ := asd (below_drew1 HB.out)
          clear HO_3
          clear HO_4
          clear HB
          have HO_3 := n0_
          have HO_4 := n1_
          have HB := n2_
          clear n0_ n1_ n2_
          have p185 : 0 ≤ (x5_1 : Int) := dt
          have q185 : x5_1 < (l0.length : Int) := dt
          obtain ⟨ad185, A185_9, c185_9, e185, hx185_0, hx185_1, hx185_2, hx185_3, hx185_4, hx185_5, hx185_6, hx185_7, hx185_8, hx185_9, hl185_9, hi185_9⟩ := at_T67 HR0.out x5_1 p185 q185
          have hw185_9 := hx185_9
          have hw185_8 := hx185_8
          have hw185_7 := hx185_7
          have hw185_6 := hx185_6
          have hw185_5 := hx185_5
          have hw185_4 := hx185_4
          have hw185_3 := hx185_3
          have hw185_2 := hx185_2
          have hw185_1 := hx185_1
          have hw185_0 := hx185_0
          (try rw [← Nbq7.out] at hx185_1)
          (try rw [← Nbq7.out] at hw185_1)
          (try rw [← Nbq7.out] at hx185_6)
          (try rw [← Nbq7.out] at hw185_6)
          obtain rfl : ad171 = ad185 := (by injection e185)
          replace hx185_0 := skc HB.out hx185_0
          replace hx185_1 := skc HB.out hx185_1
          replace hx185_2 := skc HB.out hx185_2
          replace hx185_3 := skc HB.out hx185_3
          replace hx185_4 := skc HB.out hx185_4
          replace hx185_5 := skc HB.out hx185_5
          replace hx185_6 := skc HB.out hx185_6
          replace hx185_7 := skc HB.out hx185_7
          replace hx185_8 := skc HB.out hx185_8
          replace hx185_9 := skc HB.out hx185_9
          have HR185_9 := asd hi185_9
          have HC185_9 := asd hl185_9
          clear hi185_9 hl185_9
          replace p185 := eq_true p185
          replace q185 := eq_true q185
          have p186 : 0 ≤ (x5_1 : Int) := dt
          have q186 : x5_1 < (l0.length : Int) := dt
          obtain ⟨ad186, A186_9, c186_9, e186, hx186_0, hx186_1, hx186_2, hx186_3, hx186_4, hx186_5, hx186_6, hx186_7, hx186_8, hx186_9, hl186_9, hi186_9⟩ := at_T67 HR0.out x5_1 p186 q186
          have hw186_9 := hx186_9
          have hw186_8 := hx186_8
          have hw186_7 := hx186_7
          have hw186_6 := hx186_6
          have hw186_5 := hx186_5
          have hw186_4 := hx186_4
          have hw186_3 := hx186_3
          have hw186_2 := hx186_2
          have hw186_1 := hx186_1
          have hw186_0 := hx186_0
          (try rw [← Nbq7.out] at hx186_1)
          (try rw [← Nbq7.out] at hw186_1)
          (try rw [← Nbq7.out] at hx186_6)
          (try rw [← Nbq7.out] at hw186_6)
          obtain rfl : ad171 = ad186 := (by injection e186)
          replace hx186_0 := skc HB.out hx186_0
          replace hx186_1 := skc HB.out hx186_1
          replace hx186_2 := skc HB.out hx186_2
          replace hx186_3 := skc HB.out hx186_3
          replace hx186_4 := skc HB.out hx186_4
          replace hx186_5 := skc HB.out hx186_5
          replace hx186_6 := skc HB.out hx186_6
          replace hx186_7 := skc HB.out hx186_7
          replace hx186_8 := skc HB.out hx186_8
          replace hx186_9 := skc HB.out hx186_9
          have HR186_9 := asd hi186_9
          have HC186_9 := asd hl186_9
          clear hi186_9 hl186_9
          replace p186 := eq_true p186
          replace q186 := eq_true q186
          have ea_ := Option.some.inj (hx185_9.symm.trans hx186_9)
          injection ea_ with ea_ en_ ec_
          subst ea_
          subst ec_
          clear en_
          refine start_ (n := 16) (S := fun w' => w'.cell? (ad171.add ((x5_1).toNat * 10)) = some (.int .i64 ((J67 l0 x5_1).f0)) ∧ w'.cell? ⟨(ad171.add ((x5_1).toNat * 10)).block, (ad171.add ((x5_1).toNat * 10)).off + 1, none⟩ = some (.bool (false)) ∧ w'.cell? ⟨(ad171.add ((x5_1).toNat * 10)).block, (ad171.add ((x5_1).toNat * 10)).off + 2, none⟩ = some (.int .i64 ((J67 l0 x5_1).f2.f0)) ∧ w'.cell? ⟨(ad171.add ((x5_1).toNat * 10)).block, (ad171.add ((x5_1).toNat * 10)).off + 3, none⟩ = some (.int .i64 ((J67 l0 x5_1).f2.f1)) ∧ w'.cell? ⟨(ad171.add ((x5_1).toNat * 10)).block, (ad171.add ((x5_1).toNat * 10)).off + 4, none⟩ = some (.int .i64 ((J67 l0 x5_1).f2.f2)) ∧ w'.cell? ⟨(ad171.add ((x5_1).toNat * 10)).block, (ad171.add ((x5_1).toNat * 10)).off + 5, none⟩ = some (.int .i64 ((J67 l0 x5_1).f2.f3)) ∧ w'.cell? ⟨(ad171.add ((x5_1).toNat * 10)).block, (ad171.add ((x5_1).toNat * 10)).off + 6, none⟩ = some (.bool ((J67 l0 x5_1).f3.f0)) ∧ w'.cell? ⟨(ad171.add ((x5_1).toNat * 10)).block, (ad171.add ((x5_1).toNat * 10)).off + 7, none⟩ = some (.int .i64 ((J67 l0 x5_1).f3.f1)) ∧ w'.cell? ⟨(ad171.add ((x5_1).toNat * 10)).block, (ad171.add ((x5_1).toNat * 10)).off + 8, none⟩ = some (.int .i64 ((J67 l0 x5_1).f3.f2)) ∧ w'.cell? ⟨(ad171.add ((x5_1).toNat * 10)).block, (ad171.add ((x5_1).toNat * 10)).off + 9, none⟩ = some (.slice A185_9 ((J67 l0 x5_1).f3.f3).length c185_9) ∧ w'.cell? (ad171.add ((x5_1).toNat * 10)) = some (.int .i64 ((J67 l0 x5_1).f0)) ∧ w'.cell? ⟨(ad171.add ((x5_1).toNat * 10)).block, (ad171.add ((x5_1).toNat * 10)).off + 1, none⟩ = some (.bool (false)) ∧ w'.cell? ⟨(ad171.add ((x5_1).toNat * 10)).block, (ad171.add ((x5_1).toNat * 10)).off + 2, none⟩ = some (.int .i64 ((J67 l0 x5_1).f2.f0)) ∧ w'.cell? ⟨(ad171.add ((x5_1).toNat * 10)).block, (ad171.add ((x5_1).toNat * 10)).off + 3, none⟩ = some (.int .i64 ((J67 l0 x5_1).f2.f1)) ∧ w'.cell? ⟨(ad171.add ((x5_1).toNat * 10)).block, (ad171.add ((x5_1).toNat * 10)).off + 4, none⟩ = some (.int .i64 ((J67 l0 x5_1).f2.f2)) ∧ w'.cell? ⟨(ad171.add ((x5_1).toNat * 10)).block, (ad171.add ((x5_1).toNat * 10)).off + 5, none⟩ = some (.int .i64 ((J67 l0 x5_1).f2.f3)) ∧ w'.cell? ⟨(ad171.add ((x5_1).toNat * 10)).block, (ad171.add ((x5_1).toNat * 10)).off + 6, none⟩ = some (.bool ((J67 l0 x5_1).f3.f0)) ∧ w'.cell? ⟨(ad171.add ((x5_1).toNat * 10)).block, (ad171.add ((x5_1).toNat * 10)).off + 7, none⟩ = some (.int .i64 ((J67 l0 x5_1).f3.f1)) ∧ w'.cell? ⟨(ad171.add ((x5_1).toNat * 10)).block, (ad171.add ((x5_1).toNat * 10)).off + 8, none⟩ = some (.int .i64 ((J67 l0 x5_1).f3.f2)) ∧ w'.cell? ⟨(ad171.add ((x5_1).toNat * 10)).block, (ad171.add ((x5_1).toNat * 10)).off + 9, none⟩ = some (.slice A185_9 ((J67 l0 x5_1).f3.f3).length c185_9)) (ds := []) #[false,false,false,false,false,false,false,false,false,false,false,false,false,false,false,false] (by kernel_rfl) rfl rfl ⟨(skc HB.out hw185_0), (skc HB.out hw185_1), (skc HB.out hw185_2), (skc HB.out hw185_3), (skc HB.out hw185_4), (skc HB.out hw185_5), (skc HB.out hw185_6), (skc HB.out hw185_7), (skc HB.out hw185_8), (skc HB.out hw185_9), (skc HB.out hw186_0), (skc HB.out hw186_1), (skc HB.out hw186_2), (skc HB.out hw186_3), (skc HB.out hw186_4), (skc HB.out hw186_5), (skc HB.out hw186_6), (skc HB.out hw186_7), (skc HB.out hw186_8), (skc HB.out hw186_9)⟩ (fun hHeld => ?_); refine with_tabW larchref05_calls.tab8 larchref05_calls.bits8 (fun HT_ HW_ => ?_)
          generalize w28.drew = w29 at HO_3 HO_4 HB HR185_9 HR186_9 hx185_0 hx185_1 hx185_2 hx185_3 hx185_4 hx185_5 hx185_6 hx185_7 hx185_8 hx185_9 hx186_0 hx186_1 hx186_2 hx186_3 hx186_4 hx186_5 hx186_6 hx186_7 hx186_8 hx186_9 hHeld ⊢
          refine pure_ (i := 0) (N := some 29) (v := ?_) (a' := ?_) #[true,false,false,false,false,false,false,false,false,false,false,false,false,false,false,false] rfl rfl (aK HT_.out) (fun _ _ _ h => h) (Or.inl ⟨by rfl, ?_⟩) ?_ ?_
          rotate_left
          ·
           intro w'
           go_simp
           with_reducible rfl
          rotate_left
          ·
           simp only [Act.put, sp]
           rfl
          refine pure_ (i := 1) (N := some 30) (v := ?_) (a' := ?_) #[true,true,false,false,false,false,false,false,false,false,false,false,false,false,false,false] rfl rfl (aK HT_.out) (fun _ _ _ h => h) (Or.inl ⟨by rfl, ?_⟩) ?_ ?_
          rotate_left
          ·
           intro w'
           go_simp
           with_reducible rfl
          rotate_left
          ·
           simp only [Act.put, sp]
           rfl
          refine pure_ (i := 2) (N := some 31) (v := ?_) (a' := ?_) #[true,true,true,false,false,false,false,false,false,false,false,false,false,false,false,false] rfl rfl (aK HT_.out) (fun _ _ _ h => h) (Or.inl ⟨by rfl, ?_⟩) ?_ ?_
          rotate_left
          ·
           intro w'
           go_simp
           with_reducible rfl
          rotate_left
          ·
           simp only [Act.put, sp]
           rfl
          refine pure_ (i := 3) (N := some 32) (v := ?_) (a' := ?_) #[true,true,true,true,false,false,false,false,false,false,false,false,false,false,false,false] rfl rfl (aK HT_.out) (fun _ _ _ h => h) (Or.inl ⟨by rfl, ?_⟩) ?_ ?_
          rotate_left
          ·
           intro w'
           go_simp
           with_reducible rfl
          rotate_left
          ·
           simp only [Act.put, sp]
           rfl
          refine pure_ (i := 4) (N := some 33) (v := ?_) (a' := ?_) #[true,true,true,true,true,false,false,false,false,false,false,false,false,false,false,false] rfl rfl (aK HT_.out) (fun _ _ _ h => h) (Or.inl ⟨by rfl, ?_⟩) ?_ ?_
          rotate_left
          ·
           intro w'
           go_simp
           with_reducible rfl
          rotate_left
          ·
           simp only [Act.put, sp]
           rfl
          refine pure_ (i := 6) (N := some 35) (v := ?_) (a' := ?_) #[true,true,true,true,true,false,true,false,false,false,false,false,false,false,false,false] rfl rfl (aK HT_.out) (fun _ _ _ h => h) (Or.inl ⟨by rfl, ?_⟩) ?_ ?_
          rotate_left
          ·
           intro w'
           go_simp
           with_reducible rfl
          rotate_left
          ·
           simp only [Act.put, sp]
           rfl
          refine pure_ (i := 7) (N := some 36) (v := ?_) (a' := ?_) #[true,true,true,true,true,false,true,true,false,false,false,false,false,false,false,false] rfl rfl (aK HT_.out) (fun _ _ _ h => h) (Or.inl ⟨by rfl, ?_⟩) ?_ ?_
          rotate_left
          ·
           intro w'
           go_simp
           with_reducible rfl
          rotate_left
          ·
           simp only [Act.put, sp]
           rfl
          refine pure_ (i := 8) (N := some 37) (v := ?_) (a' := ?_) #[true,true,true,true,true,false,true,true,true,false,false,false,false,false,false,false] rfl rfl (aK HT_.out) (fun _ _ _ h => h) (Or.inl ⟨by rfl, ?_⟩) ?_ ?_
          rotate_left
          ·
           intro w'
           go_simp
           with_reducible rfl
          rotate_left
          ·
           simp only [Act.put, sp]
           rfl
          refine pure_ (i := 9) (N := some 38) (v := ?_) (a' := ?_) #[true,true,true,true,true,false,true,true,true,true,false,false,false,false,false,false] rfl rfl (aK HT_.out) (fun _ _ _ h => h) (Or.inl ⟨by rfl, ?_⟩) ?_ ?_
          rotate_left
          ·
           intro w'
           go_simp
           with_reducible rfl
          rotate_left
          ·
           simp only [Act.put, sp]
           rfl
          refine pure_ (i := 11) (N := some 40) (v := ?_) (a' := ?_) #[true,true,true,true,true,false,true,true,true,true,false,true,false,false,false,false] rfl rfl (aK HT_.out) (fun _ _ _ h => h) (Or.inl ⟨by rfl, ?_⟩) ?_ ?_
          rotate_left
          ·
           intro w'
           go_simp
           with_reducible rfl
          rotate_left
          ·
           simp only [Act.put, sp]
           rfl
          refine take_ (i := 5) (N := some 34) (v := ?_) (a' := ?_) #[true,true,true,true,true,true,true,true,true,true,false,true,false,false,false,false] rfl rfl (take_ofW HT_.out HW_.out (by kernel_rfl)) (fun _ _ _ h => h) (Or.inl ⟨by rfl, ?_⟩) hHeld ?_ ?_
          rotate_left
          ·
           rintro w' ⟨s0, s1, s2, s3, s4, s5, s6, s7, s8, s9, s10, s11, s12, s13, s14, s15, s16, s17, s18, s19⟩
           go_simp
           with_reducible rfl
          rotate_left
          ·
           simp only [Act.put, sp]
           rfl
          refine take_ (i := 10) (N := some 39) (v := ?_) (a' := ?_) #[true,true,true,true,true,true,true,true,true,true,true,true,false,false,false,false] rfl rfl (take_ofW HT_.out HW_.out (by kernel_rfl)) (fun _ _ _ h => h) (Or.inl ⟨by rfl, ?_⟩) hHeld ?_ ?_
          rotate_left
          ·
           rintro w' ⟨s0, s1, s2, s3, s4, s5, s6, s7, s8, s9, s10, s11, s12, s13, s14, s15, s16, s17, s18, s19⟩
           go_simp
           with_reducible rfl
          rotate_left
          ·
           simp only [Act.put, sp]
           rfl
          refine pure_ (i := 12) (N := some 41) (v := ?_) (a' := ?_) #[true,true,true,true,true,true,true,true,true,true,true,true,true,false,false,false] rfl rfl (aK HT_.out) (fun _ _ _ h => h) (Or.inl ⟨by rfl, ?_⟩) ?_ ?_
          rotate_left
          ·
           intro w'
           go_simp
           with_reducible rfl
          rotate_left
          ·
           simp only [Act.put, sp]
           rfl
          refine one_ (i := 13) (N := some 42) #[true,true,true,true,true,true,true,true,true,true,true,true,true,true,false,false] rfl rfl (one_of HT_.out (by kernel_rfl)) (by decide) (fun K hK => ?_)
          refine value_ (w1 := ?_) (v := ?_) (by rfl) rfl ?_ ?_
          rotate_left 2
          ·
           go_simp
           constructor
           ·
            rfl
           ·
            rfl
          refine hK.out _ _ ⟨(World.cell?_alloc_lt _ _ _ (World.block_lt_of_cell? _ _ ((skc HB.out hw185_0)))).trans ((skc HB.out hw185_0)), (World.cell?_alloc_lt _ _ _ (World.block_lt_of_cell? _ _ ((skc HB.out hw185_1)))).trans ((skc HB.out hw185_1)), (World.cell?_alloc_lt _ _ _ (World.block_lt_of_cell? _ _ ((skc HB.out hw185_2)))).trans ((skc HB.out hw185_2)), (World.cell?_alloc_lt _ _ _ (World.block_lt_of_cell? _ _ ((skc HB.out hw185_3)))).trans ((skc HB.out hw185_3)), (World.cell?_alloc_lt _ _ _ (World.block_lt_of_cell? _ _ ((skc HB.out hw185_4)))).trans ((skc HB.out hw185_4)), (World.cell?_alloc_lt _ _ _ (World.block_lt_of_cell? _ _ ((skc HB.out hw185_5)))).trans ((skc HB.out hw185_5)), (World.cell?_alloc_lt _ _ _ (World.block_lt_of_cell? _ _ ((skc HB.out hw185_6)))).trans ((skc HB.out hw185_6)), (World.cell?_alloc_lt _ _ _ (World.block_lt_of_cell? _ _ ((skc HB.out hw185_7)))).trans ((skc HB.out hw185_7)), (World.cell?_alloc_lt _ _ _ (World.block_lt_of_cell? _ _ ((skc HB.out hw185_8)))).trans ((skc HB.out hw185_8)), (World.cell?_alloc_lt _ _ _ (World.block_lt_of_cell? _ _ ((skc HB.out hw185_9)))).trans ((skc HB.out hw185_9)), (World.cell?_alloc_lt _ _ _ (World.block_lt_of_cell? _ _ ((skc HB.out hw186_0)))).trans ((skc HB.out hw186_0)), (World.cell?_alloc_lt _ _ _ (World.block_lt_of_cell? _ _ ((skc HB.out hw186_1)))).trans ((skc HB.out hw186_1)), (World.cell?_alloc_lt _ _ _ (World.block_lt_of_cell? _ _ ((skc HB.out hw186_2)))).trans ((skc HB.out hw186_2)), (World.cell?_alloc_lt _ _ _ (World.block_lt_of_cell? _ _ ((skc HB.out hw186_3)))).trans ((skc HB.out hw186_3)), (World.cell?_alloc_lt _ _ _ (World.block_lt_of_cell? _ _ ((skc HB.out hw186_4)))).trans ((skc HB.out hw186_4)), (World.cell?_alloc_lt _ _ _ (World.block_lt_of_cell? _ _ ((skc HB.out hw186_5)))).trans ((skc HB.out hw186_5)), (World.cell?_alloc_lt _ _ _ (World.block_lt_of_cell? _ _ ((skc HB.out hw186_6)))).trans ((skc HB.out hw186_6)), (World.cell?_alloc_lt _ _ _ (World.block_lt_of_cell? _ _ ((skc HB.out hw186_7)))).trans ((skc HB.out hw186_7)), (World.cell?_alloc_lt _ _ _ (World.block_lt_of_cell? _ _ ((skc HB.out hw186_8)))).trans ((skc HB.out hw186_8)), (World.cell?_alloc_lt _ _ _ (World.block_lt_of_cell? _ _ ((skc HB.out hw186_9)))).trans ((skc HB.out hw186_9))⟩ (fun hHeld => ?_)
          clear hK K
          refine norm_ (a' := ?_) ?_ ?_
          rotate_left
          ·
           show Act.put _ (some 42) _ = _
           simp only [Act.put, sp]
           rfl
          refine one_ (i := 14) (N := some 43) #[true,true,true,true,true,true,true,true,true,true,true,true,true,true,true,false] rfl rfl (one_of HT_.out (by kernel_rfl)) (by decide) (fun K hK => ?_)
          refine Kd.S_append_step k76 (w0 := w) w.heap.size (by rfl) (.tmp 29) (.tmp 42) 56 76 (.agg #[(.int .i64 0), (.int .i64 0), (.int .i64 0), (.int .i64 0), (.int .i64 0), (.bool false), (.int .i64 0), (.int .i64 0), (.slice none 0 0), (.int .i64 0), (.int .i64 0)]) 104 rfl Try.underlying56 info76 rfl (by decide) (by omega) (.slice Ao26 x3_1.length co26) x3_1 (⟨(J67 l0 x5_1).f0, (⟨(J67 l0 x5_1).f2.f0, (J67 l0 x5_1).f2.f1, (J67 l0 x5_1).f2.f2, (J67 l0 x5_1).f2.f3⟩ : S33), (⟨false, 0, 0, ([] : List (S70))⟩ : S36), x5_1, (-1)⟩ : S76) [.int .i64 ((J67 l0 x5_1).f0), .int .i64 ((J67 l0 x5_1).f2.f0), .int .i64 ((J67 l0 x5_1).f2.f1), .int .i64 ((J67 l0 x5_1).f2.f2), .int .i64 ((J67 l0 x5_1).f2.f3), .bool false, .int .i64 0, .int .i64 0, .slice none 0 0, .int .i64 x5_1, .int .i64 (-1)] (fun _ => True) (fun _ => False) rfl rfl ?aP (fun k_ hk_ => hk_.elim) ?aF ?aO ?aB ?aS ?aL ?_
          (case aP => exact k76_mkM _ _ _ (⟨(J67 l0 x5_1).f0, (⟨(J67 l0 x5_1).f2.f0, (J67 l0 x5_1).f2.f1, (J67 l0 x5_1).f2.f2, (J67 l0 x5_1).f2.f3⟩ : S33), (⟨false, 0, 0, ([] : List (S70))⟩ : S36), x5_1, (-1)⟩ : S76) (Kd.R_nil _ _ _ _ _))
          (case aB => exact (skB HB.out))
          (case aF => exact (fun _ _ => trivial))
          (case aO => exact (by (with_reducible repeat (first | apply Kd.S_alloc | apply Kd.S_drewN | apply Kd.S_drew)); exact Kd.S_mono HO_3.out (fun k_ hk => ⟨trivial, fun e_ => e_⟩)))
          (case aS => exact (below_size (skB HB.out)))
          (case aL => have := LMc25.out; omega)
          intro v188 w30 ho hb hg hat
          rw [← Ny187.out] at ho
          have n0_ := asd (Kd.R_over' (skR HO_4.out) (Kd.S_typed (by (with_reducible repeat (first | apply Kd.S_alloc | apply Kd.S_drewN | apply Kd.S_drew)); exact HO_3.out)) (by decide) hg)
          have n1_ := asd (hb)
          have n2_ := asd (ho)
          clear HO_4
          clear HB
          clear HO_3
          have HO_4 := n0_
          have HB := n1_
          have HO189 := n2_
          clear n0_ n1_ n2_
          clear ho hb hg hat
          refine hK.out _ _ ⟨(skc HB.out hw185_0), (skc HB.out hw185_1), (skc HB.out hw185_2), (skc HB.out hw185_3), (skc HB.out hw185_4), (skc HB.out hw185_5), (skc HB.out hw185_6), (skc HB.out hw185_7), (skc HB.out hw185_8), (skc HB.out hw185_9), (skc HB.out hw186_0), (skc HB.out hw186_1), (skc HB.out hw186_2), (skc HB.out hw186_3), (skc HB.out hw186_4), (skc HB.out hw186_5), (skc HB.out hw186_6), (skc HB.out hw186_7), (skc HB.out hw186_8), (skc HB.out hw186_9)⟩ (fun hHeld => ?_)
          clear hK K
          refine norm_ (a' := ?_) ?_ ?_
          rotate_left
          ·
           show Act.put _ (some 43) _ = _
           simp only [Act.put, sp]
           rfl
          refine pure_ (i := 15) (N := some 3) (v := ?_) (a' := ?_) #[true,true,true,true,true,true,true,true,true,true,true,true,true,true,true,true] rfl rfl (aK HT_.out) (fun _ _ _ h => h) (Or.inl ⟨by rfl, ?_⟩) ?_ ?_
          rotate_left
          ·
           intro w'
           go_simp
           with_reducible rfl
          rotate_left
          ·
           simp only [Act.put, sp]
           rfl
          refine done_ (done_of HT_.out (by kernel_rfl)) ?_
          try go_wp2
          go_roundg k1
          case measure => have := HK1.out; omega
          case rel => exact ⟨(y187), (y184), (wrap64 (x5_1 + 1)), rs, H', ⟨by have := HK1.out; omega⟩, ⟨by (with_reducible repeat (first | apply Kd.S_alloc | apply Kd.S_drewN | apply Kd.S_drew)); exact HO189.out⟩, ⟨skR HO_4.out⟩, ⟨skB HB.out⟩⟩
         ·
          rw [if_neg c25] at H
          exact absurd H (by simp)
        ·
         rw [if_neg c23] at H
         exact absurd H (by simp)
       ·
        rw [if_neg c22] at H
        exact absurd H (by simp)
     ·
      rw [if_neg c6] at H
      exact absurd H (by simp)
    ·
     rw [if_neg c5] at H
     have c5b0 : decide (x5_1 < (l0.length : Int)) = false := decide_eq_false c5
     clear c5
     obtain rfl := Option.some.inj H
     go_wp2
     go_ret
     exact ⟨_, re, by (with_reducible repeat (first | apply Kd.S_alloc | apply Kd.S_drewN | apply Kd.S_drew)); exact HO_3.out, skB HB.out⟩
 ·
  rw [if_neg c2] at H
  exact absurd H (by simp)
end Go.Proofs.Ytagdkmcgepidoaa.P
/- F23 -/
namespace Go.Proofs.Ytagdkmcgepidoaa.P
open Go.RowKit Go.Proofs.YtagdkmcgepidoaaW.PrintWords Go.Proofs.YtagdkmcgepidoaaW.PrintLast Go.Proofs.YtagdkmcgepidoaaW.PrintMore
attribute [local go_sem] max2_int min2_int max_two min_two max_three min_three max_four min_four   -- for this text's walks alone
set_option linter.unusedVariables false
set_option linter.unusedSimpArgs false
def larchref05_Calls.f (k : Nat) (l0 : List (S67)) : Option ((List (S76)) × Int) := (larchref05_Check.f k l0).bind fun t190 => (if t190 = 0 then ((larchref05_calls.f k l0).bind fun t191 => (some (t191, 0))) else (some (([] : List (S76)), t190)))
set_option maxHeartbeats 8000000 in
set_option maxRecDepth 100000 in
theorem larchref05_Calls.calls (k : Nat) (A0 : Option Addr) (c0 : Nat) (l0 : List (S67)) (r1 : List (S76)) (r2 : Int) (w : World) (hr0 : Kd.C k67 w A0 l0.length l0) (hc0 : l0.length ≤ c0) (h : larchref05_Calls.f k l0 = some (r1, r2)) :
  Calls Try.prog 38 #[.slice A0 l0.length c0] w fun e w' => ∃ v0_ : Value, e = .returned (.tuple #[v0_, .int .i64 r2]) ∧ Kd.S k76 76 w' w.heap.size (fun _ => True) v0_ r1 ∧ Below w.heap.size w w' := by
 have HR0 := asd hr0
 have HC0 := asd hc0
 clear hr0 hc0
 have HB := asd (Below.refl w.heap.size w)
 have H : ((larchref05_Check.f k l0).bind fun t190 => (if t190 = 0 then ((larchref05_calls.f k l0).bind fun t191 => (some (t191, 0))) else (some (([] : List (S76)), t190)))) = some (r1, r2) := h
 clear h
 replace H := Option.bind_eq_some_iff.mp H
 obtain ⟨t190, A20, H⟩ := H
 replace H : (if t190 = 0 then ((larchref05_calls.f k l0).bind fun t191 => (some (t191, 0))) else (some (([] : List (S76)), t190))) = some (r1, r2) := H
 have A2 := asd A20
 clear A20
 by_cases c3 : t190 = 0
 ·
  rw [if_pos c3] at H
  have c3b0 : (t190 == 0) = true := beq_iff_eq.mpr c3
  have c3b1 : (t190 != 0) = false := bne_eq_false_iff_eq.mpr c3
  clear c3
  replace H := Option.bind_eq_some_iff.mp H
  obtain ⟨t191, A40, H⟩ := H
  replace H : (some (t191, 0)) = some (r1, r2) := H
  have A4 := asd A40
  clear A40
  simp only [Option.some.injEq, Prod.mk.injEq] at H
  obtain ⟨rfl, rfl⟩ := H
  go_enter Try.func38, Try.ntmps38
  go_wp2_with (first | ((with_reducible refine gate_callee (f := 37) rfl ?_); refine goesL_ (some 6) rfl rfl Try.func37 (by kernel_rfl) rfl #[.slice A0 l0.length c0] rfl ags ?_; (with_reducible refine (larchref05_Check.calls k _ _ l0 t190 _ ?side1 ?side2 A2.out).mono ?_); (case side1 => exact skC HR0.out); (case side2 => exact HC0.out); rintro e w5 ⟨rfl, hb⟩; refine ⟨_, rfl, ?_⟩; have n0_ := asd (below_step (skB HB.out) hb); clear HB; have HB := n0_; clear n0_; (try clear hb); (try clear hb2); (try clear hk); (try clear hi)) | ((with_reducible refine gate_callee (f := 64) rfl ?_); refine goesL_ (some 11) rfl rfl Try.func64 (by kernel_rfl) rfl #[.slice A0 l0.length c0] rfl ags ?_; (with_reducible refine (larchref05_calls.calls k _ _ l0 t191 _ ?side1 ?side2 A4.out).mono ?_); (case side1 => exact skC (Kd.C_below HR0.out HB.out)); (case side2 => exact HC0.out); rintro e w6 ⟨v192, rfl, ho0, hb⟩; refine ⟨_, rfl, ?_⟩; have n0_ := asd (Kd.S_lower ho0 (below_size (skB HB.out))); have n1_ := asd (below_step (skB HB.out) hb); clear HB; have HO193 := n0_; have HB := n1_; clear n0_ n1_; (try clear hb); (try clear hb2); (try clear hk); (try clear hi); (try clear ho0)))
  go_ret2
  exact ⟨_, re, by (with_reducible repeat (first | apply Kd.S_alloc | apply Kd.S_drewN | apply Kd.S_drew)); exact HO193.out, skB HB.out⟩
 ·
  rw [if_neg c3] at H
  have c3b0 : (t190 == 0) = false := beq_eq_false_iff_ne.mpr c3
  have c3b1 : (t190 != 0) = true := bne_iff_ne.mpr c3
  simp only [Option.some.injEq, Prod.mk.injEq] at H
  obtain ⟨rfl, rfl⟩ := H
  go_enter Try.func38, Try.ntmps38
  go_wp2_with (first | ((with_reducible refine gate_callee (f := 37) rfl ?_); refine goesL_ (some 6) rfl rfl Try.func37 (by kernel_rfl) rfl #[.slice A0 l0.length c0] rfl ags ?_; (with_reducible refine (larchref05_Check.calls k _ _ l0 t190 _ ?side1 ?side2 A2.out).mono ?_); (case side1 => exact skC HR0.out); (case side2 => exact HC0.out); rintro e w7 ⟨rfl, hb⟩; refine ⟨_, rfl, ?_⟩; have n0_ := asd (below_step (skB HB.out) hb); clear HB; have HB := n0_; clear n0_; (try clear hb); (try clear hb2); (try clear hk); (try clear hi)))
  go_ret2
  exact ⟨_, re, by first | exact Kd.S_nil _ _ _ _ _ | exact Kd.N_nil _ _ _ _ _ | exact Kd.V_nil _ _ _ _ _ | exact Kd.Q_nil _ _ _ _ _ | exact Kd.R_nil _ _ _ _ _, skB HB.out⟩
end Go.Proofs.Ytagdkmcgepidoaa.P
/- F52 -/
namespace Go.Proofs.Ytagdkmcgepidoaa.P
open Go.RowKit Go.Proofs.YtagdkmcgepidoaaW.PrintWords Go.Proofs.YtagdkmcgepidoaaW.PrintLast Go.Proofs.YtagdkmcgepidoaaW.PrintMore
attribute [local go_sem] max2_int min2_int max_two min_two max_three min_three max_four min_four   -- for this text's walks alone
set_option linter.unusedVariables false
set_option linter.unusedSimpArgs false
attribute [local go_sem high] eqA70
def api_Pair_71.l0 : Nat → List (S70) → List (S70) → Int → Int → Option (Bool)
 | 0, _, _, _, _ => none
 | k + 1, x0, x1, x12, x13 => if x13 < x12 then (if 0 ≤ x13 then (if x13 < (x0.length : Int) then (if x13 < (x1.length : Int) then (if (!(((J70 x0 x13).f0) == ((J70 x1 x13).f0)) || (!(((J70 x0 x13).f1) == ((J70 x1 x13).f1)))) = true then (some false) else (api_Pair_71.l0 k x0 x1 x12 (wrap64 (x13 + 1)))) else (none)) else (none)) else (none)) else (some true)
def api_Pair_71.f (k : Nat) (l0 : List (S70)) (l1 : List (S70)) : Option (Bool) := if (l0.length : Int) = (l1.length : Int) then (api_Pair_71.l0 k l0 l1 (l0.length : Int) 0) else (some false)
set_option maxHeartbeats 8000000 in
set_option maxRecDepth 100000 in
theorem api_Pair_71.calls (k : Nat) (A0 : Option Addr) (c0 : Nat) (l0 : List (S70)) (A1 : Option Addr) (c1 : Nat) (l1 : List (S70)) (r : Bool) (w : World) (hr0 : Kd.C k70 w A0 l0.length l0) (hc0 : l0.length ≤ c0) (hr1 : Kd.C k70 w A1 l1.length l1) (hc1 : l1.length ≤ c1) (h : api_Pair_71.f k l0 l1 = some r) :
  Calls Try.prog 71 #[.slice A0 l0.length c0, .slice A1 l1.length c1] w fun e w' => e = .returned (.bool r) ∧ Drawn0 w w' := by
 have hu70 := Try.underlying70
 have HR0 := asd hr0
 have HC0 := asd hc0
 clear hr0 hc0
 have HR1 := asd hr1
 have HC1 := asd hc1
 clear hr1 hc1
 have H : (if (l0.length : Int) = (l1.length : Int) then (api_Pair_71.l0 k l0 l1 (l0.length : Int) 0) else (some false)) = some r := h
 clear h
 by_cases c3 : (l0.length : Int) = (l1.length : Int)
 ·
  rw [if_pos c3] at H
  have c3b0 : ((l0.length : Int) == (l1.length : Int)) = true := beq_iff_eq.mpr c3
  have c3b1 : ((l0.length : Int) != (l1.length : Int)) = false := bne_eq_false_iff_eq.mpr c3
  have c3b2 : (l0.length == l1.length) = true := by first | simpa using c3 | (simp at c3 ⊢; omega)
  clear c3
  have H' := asd H
  clear H
  go_enter Try.func71, Try.ntmps71
  go_wp2
  repeat (go_quiet (fail); try go_wp2)
  go_loopg [13] k (fun kq v13 w' => ∃ (x13_1 : Int), v13 = .int .i64 x13_1 ∧ Aside0 (api_Pair_71.l0 kq l0 l1 (l0.length : Int) x13_1 = some r) ∧ Aside0 (kq ≤ k) ∧ Drawn0 w w')
  case atStart => exact ⟨(0), rs, H', ⟨Nat.le_refl _⟩, by repeat (first | exact Drawn0.refl _ | apply Drawn0.step)⟩
  case round =>
   clear H'
   try clear c1
   try clear p2
   try clear c3
   try clear c3b0
   try clear c3b1
   try clear c3b2
   obtain ⟨x13_1, rfl, HA, HK1, ⟨m1, rfl⟩⟩ := hrel
   cases gk with
   | zero => exact absurd HA.out (by simp [api_Pair_71.l0])
   | succ k1 =>
    have H := HA.out
    clear HA
    simp only [api_Pair_71.l0] at H
    by_cases c4 : x13_1 < (l0.length : Int)
    ·
     rw [if_pos c4] at H
     have c4b0 : decide (x13_1 < (l0.length : Int)) = true := decide_eq_true c4
     clear c4
     by_cases c5 : 0 ≤ x13_1
     ·
      rw [if_pos c5] at H
      have c5b0 : decide (0 ≤ x13_1) = true := decide_eq_true c5
      clear c5
      by_cases c6 : x13_1 < (l0.length : Int)
      ·
       rw [if_pos c6] at H
       have c6b0 : decide (x13_1 < (l0.length : Int)) = true := decide_eq_true c6
       clear c6
       by_cases c7 : x13_1 < (l1.length : Int)
       ·
        rw [if_pos c7] at H
        have c7b0 : decide (x13_1 < (l1.length : Int)) = true := decide_eq_true c7
        clear c7
        by_cases c8 : (!(((J70 l0 x13_1).f0) == ((J70 l1 x13_1).f0)) || (!(((J70 l0 x13_1).f1) == ((J70 l1 x13_1).f1)))) = true
        ·
         rw [if_pos c8] at H
         have c8b0 : (!(((J70 l0 x13_1).f0) == ((J70 l1 x13_1).f0)) || (!(((J70 l0 x13_1).f1) == ((J70 l1 x13_1).f1)))) = true := c8
         clear c8
         obtain rfl := Option.some.inj H
         have p372 : 0 ≤ (x13_1 : Int) := dt
         have q372 : x13_1 < (l0.length : Int) := dt
         obtain ⟨ad372, e372, hx372_0, hx372_1⟩ := at_T70 HR0.out x13_1 p372 q372
         cases e372
         replace p372 := eq_true p372
         replace q372 := eq_true q372
         have p373 : 0 ≤ (x13_1 : Int) := dt
         have q373 : x13_1 < (l1.length : Int) := dt
         obtain ⟨ad373, e373, hx373_0, hx373_1⟩ := at_T70 HR1.out x13_1 p373 q373
         cases e373
         replace p373 := eq_true p373
         replace q373 := eq_true q373
         go_wp2
         repeat (go_quiet (fail); try go_wp2)
         go_ret
         exact ⟨by first | rfl | (simp; done) | (simp [*]; done), by repeat (first | exact Drawn0.refl _ | apply Drawn0.step)⟩
        ·
         rw [if_neg c8] at H
         have c8b0 : (!(((J70 l0 x13_1).f0) == ((J70 l1 x13_1).f0)) || (!(((J70 l0 x13_1).f1) == ((J70 l1 x13_1).f1)))) = false := by simpa using c8
         clear c8
         have H' := asd H
         clear H
         have p372 : 0 ≤ (x13_1 : Int) := dt
         have q372 : x13_1 < (l0.length : Int) := dt
         obtain ⟨ad372, e372, hx372_0, hx372_1⟩ := at_T70 HR0.out x13_1 p372 q372
         cases e372
         replace p372 := eq_true p372
         replace q372 := eq_true q372
         have p373 : 0 ≤ (x13_1 : Int) := dt
         have q373 : x13_1 < (l1.length : Int) := dt
         obtain ⟨ad373, e373, hx373_0, hx373_1⟩ := at_T70 HR1.out x13_1 p373 q373
         cases e373
         replace p373 := eq_true p373
         replace q373 := eq_true q373
         go_wp2
         repeat (go_quiet (fail); try go_wp2)
         go_roundg k1
         case measure => have := HK1.out; omega
         case rel => exact ⟨(wrap64 (x13_1 + 1)), rs, H', ⟨by have := HK1.out; omega⟩, by repeat (first | exact Drawn0.refl _ | apply Drawn0.step)⟩
       ·
        rw [if_neg c7] at H
        exact absurd H (by simp)
      ·
       rw [if_neg c6] at H
       exact absurd H (by simp)
     ·
      rw [if_neg c5] at H
      exact absurd H (by simp)
    ·
     rw [if_neg c4] at H
     have c4b0 : decide (x13_1 < (l0.length : Int)) = false := decide_eq_false c4
     clear c4
     obtain rfl := Option.some.inj H
     go_wp2
     repeat (go_quiet (fail); try go_wp2)
     go_ret
     exact ⟨by first | rfl | (simp; done) | (simp [*]; done), by repeat (first | exact Drawn0.refl _ | apply Drawn0.step)⟩
 ·
  rw [if_neg c3] at H
  have c3b0 : ((l0.length : Int) == (l1.length : Int)) = false := beq_eq_false_iff_ne.mpr c3
  have c3b1 : ((l0.length : Int) != (l1.length : Int)) = true := bne_iff_ne.mpr c3
  have c3b2 : (l0.length == l1.length) = false := by first | simpa using c3 | (simp at c3 ⊢; omega)
  obtain rfl := Option.some.inj H
  go_enter Try.func71, Try.ntmps71
  go_wp2
  repeat (go_quiet (fail); try go_wp2)
  go_ret
  exact ⟨by first | rfl | (simp; done) | (simp [*]; done), by repeat (first | exact Drawn0.refl _ | apply Drawn0.step)⟩
end Go.Proofs.Ytagdkmcgepidoaa.P
/- F53 -/
namespace Go.Proofs.Ytagdkmcgepidoaa.P
open Go.RowKit Go.Proofs.YtagdkmcgepidoaaW.PrintWords Go.Proofs.YtagdkmcgepidoaaW.PrintLast Go.Proofs.YtagdkmcgepidoaaW.PrintMore
attribute [local go_sem] max2_int min2_int max_two min_two max_three min_three max_four min_four   -- for this text's walks alone
set_option linter.unusedVariables false
set_option linter.unusedSimpArgs false
def event_sameRet.f (k : Nat) (a0_0 : Bool) (a0_1 : Int) (a0_2 : Int) (l0_3 : List (S70)) (a1_0 : Bool) (a1_1 : Int) (a1_2 : Int) (l1_3 : List (S70)) : Option (Bool) := if (a0_0 == a1_0) = true then (if a0_1 = a1_1 then (if a0_2 = a1_2 then ((api_Pair_71.f k l0_3 l1_3).bind fun t376 => (some t376)) else (some false)) else (some false)) else (some false)
set_option maxHeartbeats 8000000 in
set_option maxRecDepth 100000 in
theorem event_sameRet.calls (k : Nat) (a0_0 : Bool) (a0_1 : Int) (a0_2 : Int) (A0_3 : Option Addr) (c0_3 : Nat) (l0_3 : List (S70)) (a1_0 : Bool) (a1_1 : Int) (a1_2 : Int) (A1_3 : Option Addr) (c1_3 : Nat) (l1_3 : List (S70)) (r : Bool) (w : World) (hr0_3 : Kd.C k70 w A0_3 l0_3.length l0_3) (hc0_3 : l0_3.length ≤ c0_3) (hr1_3 : Kd.C k70 w A1_3 l1_3.length l1_3) (hc1_3 : l1_3.length ≤ c1_3) (h : event_sameRet.f k a0_0 a0_1 a0_2 l0_3 a1_0 a1_1 a1_2 l1_3 = some r) :
  Calls Try.prog 62 #[.agg #[.bool a0_0, .int .i64 a0_1, .int .i64 a0_2, .slice A0_3 l0_3.length c0_3], .agg #[.bool a1_0, .int .i64 a1_1, .int .i64 a1_2, .slice A1_3 l1_3.length c1_3]] w fun e w' => e = .returned (.bool r) ∧ Below w.heap.size w w' := by
 have hu36 := Try.underlying36
 have HR0_3 := asd hr0_3
 have HC0_3 := asd hc0_3
 clear hr0_3 hc0_3
 have HR1_3 := asd hr1_3
 have HC1_3 := asd hc1_3
 clear hr1_3 hc1_3
 have HB := asd (Below.refl w.heap.size w)
 have H : (if (a0_0 == a1_0) = true then (if a0_1 = a1_1 then (if a0_2 = a1_2 then ((api_Pair_71.f k l0_3 l1_3).bind fun t376 => (some t376)) else (some false)) else (some false)) else (some false)) = some r := h
 clear h
 by_cases c3 : (a0_0 == a1_0) = true
 ·
  rw [if_pos c3] at H
  have c3b0 : (a0_0 == a1_0) = true := c3
  (try (have c3b1 : decide (a0_0 = a1_0) = true := by simpa using c3))
  (try (have c3b2 : (a0_0 == a1_0) = true := by simpa using c3))
  clear c3
  by_cases c4 : a0_1 = a1_1
  ·
   rw [if_pos c4] at H
   have c4b0 : (a0_1 == a1_1) = true := beq_iff_eq.mpr c4
   have c4b1 : (a0_1 != a1_1) = false := bne_eq_false_iff_eq.mpr c4
   clear c4
   by_cases c5 : a0_2 = a1_2
   ·
    rw [if_pos c5] at H
    have c5b0 : (a0_2 == a1_2) = true := beq_iff_eq.mpr c5
    have c5b1 : (a0_2 != a1_2) = false := bne_eq_false_iff_eq.mpr c5
    clear c5
    replace H := Option.bind_eq_some_iff.mp H
    obtain ⟨t376, A60, H⟩ := H
    replace H : (some t376) = some r := H
    have A6 := asd A60
    clear A60
    obtain rfl := Option.some.inj H
    go_enter Try.func62, Try.ntmps62
    go_wp2_with (first | ((with_reducible refine gate_dst (N := 2) rfl ?_); refine box_event ?hg (N := 2) ?hd (cs := #[.bool a0_0, .int .i64 a0_1, .int .i64 a0_2, .slice A0_3 l0_3.length c0_3]) (t := 36) ?hr ?_; (case hd => rfl); (case hg => rfl); (case hr => first | (go_simp; done) | (go_simp; rfl)); intro gb374 hg w7 hbox hb; have n0_ := asd (below_step (skB HB.out) hb); have n1_ := asd (hbox); have n2_ := asd ((by rw [hg]; exact (below_size (skB HB.out)) : w.heap.size ≤ gb374)); have n3_ := asd ((by rw [hg]; exact (below_size (skB HB.out)) : w.heap.size ≤ gb374)); clear HB; have HB := n0_; have BK374 := n1_; have GW374 := n2_; have GE374 := n3_; clear n0_ n1_ n2_ n3_; clear hb hbox hg) | ((with_reducible refine gate_dst (N := 3) rfl ?_); refine box_event ?hg (N := 3) ?hd (cs := #[.bool a1_0, .int .i64 a1_1, .int .i64 a1_2, .slice A1_3 l1_3.length c1_3]) (t := 36) ?hr ?_; (case hd => rfl); (case hg => rfl); (case hr => first | (go_simp; done) | (go_simp; rfl)); intro gb375 hg w8 hbox hb; have n0_ := asd (blk_below (g := gb374) (o := .cells #[.bool a0_0, .int .i64 a0_1, .int .i64 a0_2, .slice A0_3 l0_3.length c0_3] 36 (0, 0)) (skK BK374.out) hb); have n1_ := asd (below_step (skG HB.out GE374.out GE374.out) hb); have n2_ := asd (hbox); have n3_ := asd ((by rw [hg]; exact (below_size (skG HB.out GE374.out GE374.out)) : w.heap.size ≤ gb375)); have n4_ := asd ((by rw [hg]; exact (below_size (skG HB.out GE374.out GE374.out)) : w.heap.size ≤ gb375)); have n5_ := asd ((by rw [hg]; exact Nat.ne_of_lt (blk_lt (g := gb374) (o := .cells #[.bool a0_0, .int .i64 a0_1, .int .i64 a0_2, .slice A0_3 l0_3.length c0_3] 36 (0, 0)) (skK BK374.out)) : gb374 ≠ gb375)); have n6_ := asd ((by rw [hg]; exact Nat.ne_of_gt (blk_lt (g := gb374) (o := .cells #[.bool a0_0, .int .i64 a0_1, .int .i64 a0_2, .slice A0_3 l0_3.length c0_3] 36 (0, 0)) (skK BK374.out)) : gb375 ≠ gb374)); clear BK374; clear HB; have BK374 := n0_; have HB := n1_; have BK375 := n2_; have GW375 := n3_; have GE375 := n4_; have NB374_375 := n5_; have NB375_374 := n6_; clear n0_ n1_ n2_ n3_ n4_ n5_ n6_; clear hb hbox hg; have hnb9 := NB374_375.out; have hnc9 := NB375_374.out; obtain ⟨hcz10_0, hcz10_1, hcz10_2, hcz10_3, hfz10_0, hfz10_1, hfz10_2, hfz10_3⟩ := bk4 BK374.out; obtain ⟨hcz11_0, hcz11_1, hcz11_2, hcz11_3, hfz11_0, hfz11_1, hfz11_2, hfz11_3⟩ := bk4 BK375.out) | (go_at_call 71; (with_reducible refine (api_Pair_71.calls k _ _ l0_3 _ _ l1_3 t376 _ ?side1 ?side2 ?side3 ?side4 A6.out).mono ?_); (case side1 => exact skC (Kd.C_below HR0_3.out HB.out)); (case side2 => exact HC0_3.out); (case side3 => exact skC (Kd.C_below HR1_3.out HB.out)); (case side4 => exact HC1_3.out); rintro e w' ⟨rfl, ⟨nd, rfl⟩⟩))
    go_ret
    exact ⟨re, skG HB.out GE374.out GE375.out⟩
   ·
    rw [if_neg c5] at H
    have c5b0 : (a0_2 == a1_2) = false := beq_eq_false_iff_ne.mpr c5
    have c5b1 : (a0_2 != a1_2) = true := bne_iff_ne.mpr c5
    obtain rfl := Option.some.inj H
    go_enter Try.func62, Try.ntmps62
    go_wp2_with (first | ((with_reducible refine gate_dst (N := 2) rfl ?_); refine box_event ?hg (N := 2) ?hd (cs := #[.bool a0_0, .int .i64 a0_1, .int .i64 a0_2, .slice A0_3 l0_3.length c0_3]) (t := 36) ?hr ?_; (case hd => rfl); (case hg => rfl); (case hr => first | (go_simp; done) | (go_simp; rfl)); intro gb374 hg w12 hbox hb; have n0_ := asd (below_step (skB HB.out) hb); have n1_ := asd (hbox); have n2_ := asd ((by rw [hg]; exact (below_size (skB HB.out)) : w.heap.size ≤ gb374)); have n3_ := asd ((by rw [hg]; exact (below_size (skB HB.out)) : w.heap.size ≤ gb374)); clear HB; have HB := n0_; have BK374 := n1_; have GW374 := n2_; have GE374 := n3_; clear n0_ n1_ n2_ n3_; clear hb hbox hg) | ((with_reducible refine gate_dst (N := 3) rfl ?_); refine box_event ?hg (N := 3) ?hd (cs := #[.bool a1_0, .int .i64 a1_1, .int .i64 a1_2, .slice A1_3 l1_3.length c1_3]) (t := 36) ?hr ?_; (case hd => rfl); (case hg => rfl); (case hr => first | (go_simp; done) | (go_simp; rfl)); intro gb375 hg w13 hbox hb; have n0_ := asd (blk_below (g := gb374) (o := .cells #[.bool a0_0, .int .i64 a0_1, .int .i64 a0_2, .slice A0_3 l0_3.length c0_3] 36 (0, 0)) (skK BK374.out) hb); have n1_ := asd (below_step (skG HB.out GE374.out GE374.out) hb); have n2_ := asd (hbox); have n3_ := asd ((by rw [hg]; exact (below_size (skG HB.out GE374.out GE374.out)) : w.heap.size ≤ gb375)); have n4_ := asd ((by rw [hg]; exact (below_size (skG HB.out GE374.out GE374.out)) : w.heap.size ≤ gb375)); have n5_ := asd ((by rw [hg]; exact Nat.ne_of_lt (blk_lt (g := gb374) (o := .cells #[.bool a0_0, .int .i64 a0_1, .int .i64 a0_2, .slice A0_3 l0_3.length c0_3] 36 (0, 0)) (skK BK374.out)) : gb374 ≠ gb375)); have n6_ := asd ((by rw [hg]; exact Nat.ne_of_gt (blk_lt (g := gb374) (o := .cells #[.bool a0_0, .int .i64 a0_1, .int .i64 a0_2, .slice A0_3 l0_3.length c0_3] 36 (0, 0)) (skK BK374.out)) : gb375 ≠ gb374)); clear BK374; clear HB; have BK374 := n0_; have HB := n1_; have BK375 := n2_; have GW375 := n3_; have GE375 := n4_; have NB374_375 := n5_; have NB375_374 := n6_; clear n0_ n1_ n2_ n3_ n4_ n5_ n6_; clear hb hbox hg; have hnb14 := NB374_375.out; have hnc14 := NB375_374.out; obtain ⟨hcz15_0, hcz15_1, hcz15_2, hcz15_3, hfz15_0, hfz15_1, hfz15_2, hfz15_3⟩ := bk4 BK374.out; obtain ⟨hcz16_0, hcz16_1, hcz16_2, hcz16_3, hfz16_0, hfz16_1, hfz16_2, hfz16_3⟩ := bk4 BK375.out))
    go_ret
    exact ⟨re, skG HB.out GE374.out GE375.out⟩
  ·
   rw [if_neg c4] at H
   have c4b0 : (a0_1 == a1_1) = false := beq_eq_false_iff_ne.mpr c4
   have c4b1 : (a0_1 != a1_1) = true := bne_iff_ne.mpr c4
   obtain rfl := Option.some.inj H
   go_enter Try.func62, Try.ntmps62
   go_wp2_with (first | ((with_reducible refine gate_dst (N := 2) rfl ?_); refine box_event ?hg (N := 2) ?hd (cs := #[.bool a0_0, .int .i64 a0_1, .int .i64 a0_2, .slice A0_3 l0_3.length c0_3]) (t := 36) ?hr ?_; (case hd => rfl); (case hg => rfl); (case hr => first | (go_simp; done) | (go_simp; rfl)); intro gb374 hg w17 hbox hb; have n0_ := asd (below_step (skB HB.out) hb); have n1_ := asd (hbox); have n2_ := asd ((by rw [hg]; exact (below_size (skB HB.out)) : w.heap.size ≤ gb374)); have n3_ := asd ((by rw [hg]; exact (below_size (skB HB.out)) : w.heap.size ≤ gb374)); clear HB; have HB := n0_; have BK374 := n1_; have GW374 := n2_; have GE374 := n3_; clear n0_ n1_ n2_ n3_; clear hb hbox hg) | ((with_reducible refine gate_dst (N := 3) rfl ?_); refine box_event ?hg (N := 3) ?hd (cs := #[.bool a1_0, .int .i64 a1_1, .int .i64 a1_2, .slice A1_3 l1_3.length c1_3]) (t := 36) ?hr ?_; (case hd => rfl); (case hg => rfl); (case hr => first | (go_simp; done) | (go_simp; rfl)); intro gb375 hg w18 hbox hb; have n0_ := asd (blk_below (g := gb374) (o := .cells #[.bool a0_0, .int .i64 a0_1, .int .i64 a0_2, .slice A0_3 l0_3.length c0_3] 36 (0, 0)) (skK BK374.out) hb); have n1_ := asd (below_step (skG HB.out GE374.out GE374.out) hb); have n2_ := asd (hbox); have n3_ := asd ((by rw [hg]; exact (below_size (skG HB.out GE374.out GE374.out)) : w.heap.size ≤ gb375)); have n4_ := asd ((by rw [hg]; exact (below_size (skG HB.out GE374.out GE374.out)) : w.heap.size ≤ gb375)); have n5_ := asd ((by rw [hg]; exact Nat.ne_of_lt (blk_lt (g := gb374) (o := .cells #[.bool a0_0, .int .i64 a0_1, .int .i64 a0_2, .slice A0_3 l0_3.length c0_3] 36 (0, 0)) (skK BK374.out)) : gb374 ≠ gb375)); have n6_ := asd ((by rw [hg]; exact Nat.ne_of_gt (blk_lt (g := gb374) (o := .cells #[.bool a0_0, .int .i64 a0_1, .int .i64 a0_2, .slice A0_3 l0_3.length c0_3] 36 (0, 0)) (skK BK374.out)) : gb375 ≠ gb374)); clear BK374; clear HB; have BK374 := n0_; have HB := n1_; have BK375 := n2_; have GW375 := n3_; have GE375 := n4_; have NB374_375 := n5_; have NB375_374 := n6_; clear n0_ n1_ n2_ n3_ n4_ n5_ n6_; clear hb hbox hg; have hnb19 := NB374_375.out; have hnc19 := NB375_374.out; obtain ⟨hcz20_0, hcz20_1, hcz20_2, hcz20_3, hfz20_0, hfz20_1, hfz20_2, hfz20_3⟩ := bk4 BK374.out; obtain ⟨hcz21_0, hcz21_1, hcz21_2, hcz21_3, hfz21_0, hfz21_1, hfz21_2, hfz21_3⟩ := bk4 BK375.out))
   go_ret
   exact ⟨re, skG HB.out GE374.out GE375.out⟩
 ·
  rw [if_neg c3] at H
  have c3b0 : (a0_0 == a1_0) = false := by simpa using c3
  (try (have c3b1 : decide (a0_0 = a1_0) = false := by simpa using c3))
  (try (have c3b2 : (a0_0 == a1_0) = false := by simpa using c3))
  (try (have c3b3 : ¬ (a0_0 = a1_0) := by simpa using c3))
  clear c3
  obtain rfl := Option.some.inj H
  go_enter Try.func62, Try.ntmps62
  go_wp2_with (first | ((with_reducible refine gate_dst (N := 2) rfl ?_); refine box_event ?hg (N := 2) ?hd (cs := #[.bool a0_0, .int .i64 a0_1, .int .i64 a0_2, .slice A0_3 l0_3.length c0_3]) (t := 36) ?hr ?_; (case hd => rfl); (case hg => rfl); (case hr => first | (go_simp; done) | (go_simp; rfl)); intro gb374 hg w22 hbox hb; have n0_ := asd (below_step (skB HB.out) hb); have n1_ := asd (hbox); have n2_ := asd ((by rw [hg]; exact (below_size (skB HB.out)) : w.heap.size ≤ gb374)); have n3_ := asd ((by rw [hg]; exact (below_size (skB HB.out)) : w.heap.size ≤ gb374)); clear HB; have HB := n0_; have BK374 := n1_; have GW374 := n2_; have GE374 := n3_; clear n0_ n1_ n2_ n3_; clear hb hbox hg) | ((with_reducible refine gate_dst (N := 3) rfl ?_); refine box_event ?hg (N := 3) ?hd (cs := #[.bool a1_0, .int .i64 a1_1, .int .i64 a1_2, .slice A1_3 l1_3.length c1_3]) (t := 36) ?hr ?_; (case hd => rfl); (case hg => rfl); (case hr => first | (go_simp; done) | (go_simp; rfl)); intro gb375 hg w23 hbox hb; have n0_ := asd (blk_below (g := gb374) (o := .cells #[.bool a0_0, .int .i64 a0_1, .int .i64 a0_2, .slice A0_3 l0_3.length c0_3] 36 (0, 0)) (skK BK374.out) hb); have n1_ := asd (below_step (skG HB.out GE374.out GE374.out) hb); have n2_ := asd (hbox); have n3_ := asd ((by rw [hg]; exact (below_size (skG HB.out GE374.out GE374.out)) : w.heap.size ≤ gb375)); have n4_ := asd ((by rw [hg]; exact (below_size (skG HB.out GE374.out GE374.out)) : w.heap.size ≤ gb375)); have n5_ := asd ((by rw [hg]; exact Nat.ne_of_lt (blk_lt (g := gb374) (o := .cells #[.bool a0_0, .int .i64 a0_1, .int .i64 a0_2, .slice A0_3 l0_3.length c0_3] 36 (0, 0)) (skK BK374.out)) : gb374 ≠ gb375)); have n6_ := asd ((by rw [hg]; exact Nat.ne_of_gt (blk_lt (g := gb374) (o := .cells #[.bool a0_0, .int .i64 a0_1, .int .i64 a0_2, .slice A0_3 l0_3.length c0_3] 36 (0, 0)) (skK BK374.out)) : gb375 ≠ gb374)); clear BK374; clear HB; have BK374 := n0_; have HB := n1_; have BK375 := n2_; have GW375 := n3_; have GE375 := n4_; have NB374_375 := n5_; have NB375_374 := n6_; clear n0_ n1_ n2_ n3_ n4_ n5_ n6_; clear hb hbox hg; have hnb24 := NB374_375.out; have hnc24 := NB375_374.out; obtain ⟨hcz25_0, hcz25_1, hcz25_2, hcz25_3, hfz25_0, hfz25_1, hfz25_2, hfz25_3⟩ := bk4 BK374.out; obtain ⟨hcz26_0, hcz26_1, hcz26_2, hcz26_3, hfz26_0, hfz26_1, hfz26_2, hfz26_3⟩ := bk4 BK375.out))
  go_ret
  exact ⟨re, skG HB.out GE374.out GE375.out⟩
end Go.Proofs.Ytagdkmcgepidoaa.P
/- F44 -/
namespace Go.Proofs.Ytagdkmcgepidoaa.P
open Go.RowKit Go.Proofs.YtagdkmcgepidoaaW.PrintWords Go.Proofs.YtagdkmcgepidoaaW.PrintLast Go.Proofs.YtagdkmcgepidoaaW.PrintMore
attribute [local go_sem] max2_int min2_int max_two min_two max_three min_three max_four min_four   -- for this text's walks alone
set_option linter.unusedVariables false
set_option linter.unusedSimpArgs false
def event_places.l0 : Nat → List Int → List (S38) → Int → Int → Option (List Int)
 | 0, _, _, _, _ => none
 | k + 1, x5, x11, x12, x13 => if x13 < x12 then (if 0 ≤ x13 then (if x13 < (x11.length : Int) then (if 0 ≤ ((J38 x11 x13).f3) then (if ((J38 x11 x13).f3) < (x5.length : Int) then ((some (x5.set (((J38 x11 x13).f3) : Int).toNat x13 : List Int)).bind fun y327 => (if ((J38 x11 x13).f4) ≥ 0 then (if 0 ≤ ((J38 x11 x13).f4) then (if ((J38 x11 x13).f4) < (x5.length : Int) then (event_places.l0 k (y327.set (((J38 x11 x13).f4) : Int).toNat x13) x11 x12 (wrap64 (x13 + 1))) else (none)) else (none)) else (event_places.l0 k y327 x11 x12 (wrap64 (x13 + 1))))) else (none)) else (none)) else (none)) else (none)) else (some x5)
def event_places.f (k : Nat) (l0 : List (S67)) (l1 : List (S38)) : Option (List Int) := if 0 ≤ (l0.length : Int) then (if ((l0.length : Int) : Int).toNat ≤ 35184372088832 then (event_places.l0 k (List.replicate ((l0.length : Int) : Int).toNat 0) l1 (l1.length : Int) 0) else (none)) else (none)
set_option maxHeartbeats 8000000 in
set_option maxRecDepth 100000 in
theorem event_places.calls (k : Nat) (A0 : Option Addr) (c0 : Nat) (l0 : List (S67)) (A1 : Option Addr) (c1 : Nat) (l1 : List (S38)) (r : List Int) (w : World) (hr0 : Kd.C k67 w A0 l0.length l0) (hc0 : l0.length ≤ c0) (hr1 : Kd.C k38 w A1 l1.length l1) (hc1 : l1.length ≤ c1) (h : event_places.f k l0 l1 = some r) :
  Calls Try.prog 57 #[.slice A0 l0.length c0, .slice A1 l1.length c1] w fun e w' => ∃ v0_ : Value, e = .returned (v0_) ∧ Kd.R (Kd.int .i64) 3 w' w.heap.size (fun _ => True) v0_ r ∧ Below w.heap.size w w' := by
 have hu38 := Try.underlying38
 have HR0 := asd hr0
 have HC0 := asd hc0
 clear hr0 hc0
 have HR1 := asd hr1
 have HC1 := asd hc1
 clear hr1 hc1
 have HB := asd (Below.refl w.heap.size w)
 have H : (if 0 ≤ (l0.length : Int) then (if ((l0.length : Int) : Int).toNat ≤ 35184372088832 then (event_places.l0 k (List.replicate ((l0.length : Int) : Int).toNat 0) l1 (l1.length : Int) 0) else (none)) else (none)) = some r := h
 clear h
 by_cases c3 : 0 ≤ (l0.length : Int)
 ·
  rw [if_pos c3] at H
  have c3b0 := eq_true c3
  have c3b1 : decide (0 ≤ (l0.length : Int)) = true := decide_eq_true c3
  clear c3
  by_cases c4 : ((l0.length : Int) : Int).toNat ≤ 35184372088832
  ·
   rw [if_pos c4] at H
   have c4b0 := eq_true c4
   have c4b1 : decide (((l0.length : Int) : Int).toNat ≤ 35184372088832) = true := decide_eq_true c4
   clear c4
   obtain ⟨y322, hy322⟩ : ∃ y_ : List Int, y_ = (List.replicate ((l0.length : Int) : Int).toNat 0) := ⟨_, rfl⟩
   replace H : (event_places.l0 k y322 l1 (l1.length : Int) 0) = some r := by first | (rw [hy322]; with_reducible exact H) | (have H2_ := (Option.bind_some _ _).symm.trans H; rw [hy322]; with_reducible exact H2_) | (have H2_ := (Option.bind_some _ _).symm.trans H; with_reducible exact H2_) | with_reducible exact H | (rw [hy322]; exact H) | exact H
   have Ny322 := asd hy322
   clear hy322
   have H' := asd H
   clear H
   go_enter Try.func57, Try.ntmps57
   go_wp2_with (first | ((with_reducible refine gate_dst (N := 10) rfl ?_); refine Kd.R_make (Kd.int .i64) _ 3 rfl (N := 10) rfl 41 _ _ rfl (l0.length : Int) rfl rfl Try.underlying41 (.int .i64 0) 8 info3 rfl (by decide) (by omega) 0 (ok := fun _ => True) (okp := fun _ => True) rfl (fun _ hk => hk) trivial dt (Nat.le_trans (Nat.mul_le_mul_right _ (dt : (l0.length : Int).toNat ≤ 35184372088832)) (by omega)) (Below.refl _ _) (Nat.le_refl _) ?_; intro v323 w5 ho6 hb hg_ hnew_; clear hg_ hnew_; (first | rw [← Ny322.out] at ho6 | (simp only [Int.reduceToNat] at ho6; rw [← Ny322.out] at ho6)); have n0_ := asd (Kd.R_lower ho6 (below_size (skB HB.out))); have n1_ := asd (below_step (skB HB.out) hb); clear HB; have HO324 := n0_; have HB := n1_; clear n0_ n1_; clear hb ho6))
   go_loopg [13] k (fun kq v13 w' => ∃ (x5_1 : List Int) (x13_1 : Int), v13 = .int .i64 x13_1 ∧ Aside0 (event_places.l0 kq x5_1 l1 (l1.length : Int) x13_1 = some r) ∧ Aside0 (kq ≤ k) ∧ Aside0 (Kd.R (Kd.int .i64) 3 w' w.heap.size (fun _ => True) v323 x5_1) ∧ Aside0 (Below w.heap.size w w'))
   case atStart => exact ⟨(y322), (0), rs, H', ⟨Nat.le_refl _⟩, ⟨skR HO324.out⟩, ⟨skB HB.out⟩⟩
   case round =>
    clear H'
    try clear c1
    try clear p2
    try clear c3
    try clear c3b0
    try clear c3b1
    try clear c4
    try clear c4b0
    try clear c4b1
    try clear c5
    obtain ⟨x5_1, x13_1, rfl, HA, HK1, HO_5, HB⟩ := hrel
    cases gk with
    | zero => exact absurd HA.out (by simp [event_places.l0])
    | succ k1 =>
     have H := HA.out
     clear HA
     simp only [event_places.l0] at H
     by_cases c7 : x13_1 < (l1.length : Int)
     ·
      rw [if_pos c7] at H
      have c7b0 : decide (x13_1 < (l1.length : Int)) = true := decide_eq_true c7
      clear c7
      by_cases c8 : 0 ≤ x13_1
      ·
       rw [if_pos c8] at H
       have c8b0 : decide (0 ≤ x13_1) = true := decide_eq_true c8
       clear c8
       by_cases c9 : x13_1 < (l1.length : Int)
       ·
        rw [if_pos c9] at H
        have c9b0 : decide (x13_1 < (l1.length : Int)) = true := decide_eq_true c9
        clear c9
        by_cases c10 : 0 ≤ ((J38 l1 x13_1).f3)
        ·
         rw [if_pos c10] at H
         have c10b0 : decide (0 ≤ ((J38 l1 x13_1).f3)) = true := decide_eq_true c10
         clear c10
         by_cases c11 : ((J38 l1 x13_1).f3) < (x5_1.length : Int)
         ·
          rw [if_pos c11] at H
          have c11b0 : decide (((J38 l1 x13_1).f3) < (x5_1.length : Int)) = true := decide_eq_true c11
          clear c11
          obtain ⟨y327, hy327⟩ : ∃ y_ : List Int, y_ = (x5_1.set (((J38 l1 x13_1).f3) : Int).toNat x13_1) := ⟨_, rfl⟩
          replace H : (if ((J38 l1 x13_1).f4) ≥ 0 then (if 0 ≤ ((J38 l1 x13_1).f4) then (if ((J38 l1 x13_1).f4) < (x5_1.length : Int) then (event_places.l0 k1 (y327.set (((J38 l1 x13_1).f4) : Int).toNat x13_1) l1 (l1.length : Int) (wrap64 (x13_1 + 1))) else (none)) else (none)) else (event_places.l0 k1 y327 l1 (l1.length : Int) (wrap64 (x13_1 + 1)))) = some r := by first | (rw [hy327]; with_reducible exact H) | (have H2_ := (Option.bind_some _ _).symm.trans H; rw [hy327]; with_reducible exact H2_) | (have H2_ := (Option.bind_some _ _).symm.trans H; with_reducible exact H2_) | with_reducible exact H | (rw [hy327]; exact H) | exact H
          have Ny327 := asd hy327
          clear hy327
          by_cases c13 : ((J38 l1 x13_1).f4) ≥ 0
          ·
           rw [if_pos c13] at H
           have c13b0 : decide (0 ≤ ((J38 l1 x13_1).f4)) = true := decide_eq_true c13
           clear c13
           by_cases c14 : 0 ≤ ((J38 l1 x13_1).f4)
           ·
            rw [if_pos c14] at H
            have c14b0 : decide (0 ≤ ((J38 l1 x13_1).f4)) = true := decide_eq_true c14
            clear c14
            by_cases c15 : ((J38 l1 x13_1).f4) < (x5_1.length : Int)
            ·
             rw [if_pos c15] at H
             have c15b0 : decide (((J38 l1 x13_1).f4) < (x5_1.length : Int)) = true := decide_eq_true c15
             clear c15
             obtain ⟨y328, hy328⟩ : ∃ y_ : List Int, y_ = (y327.set (((J38 l1 x13_1).f4) : Int).toNat x13_1) := ⟨_, rfl⟩
             replace H : (event_places.l0 k1 y328 l1 (l1.length : Int) (wrap64 (x13_1 + 1))) = some r := by first | (rw [hy328]; with_reducible exact H) | (have H2_ := (Option.bind_some _ _).symm.trans H; rw [hy328]; with_reducible exact H2_) | (have H2_ := (Option.bind_some _ _).symm.trans H; with_reducible exact H2_) | with_reducible exact H | (rw [hy328]; exact H) | exact H
             have Ny328 := asd hy328
             clear hy328
             have H' := asd H
             clear H
             have p325 : 0 ≤ (x13_1 : Int) := dt
             have q325 : x13_1 < (l1.length : Int) := dt
             obtain ⟨ad325, A325_8, c325_8, e325, hx325_0, hx325_1, hx325_2, hx325_3, hx325_4, hx325_5, hx325_6, hx325_7, hx325_8, hx325_9, hx325_10, hl325_8, hi325_8⟩ := at_T38 HR1.out x13_1 p325 q325
             cases e325
             replace hx325_0 := skc HB.out hx325_0
             replace hx325_1 := skc HB.out hx325_1
             replace hx325_2 := skc HB.out hx325_2
             replace hx325_3 := skc HB.out hx325_3
             replace hx325_4 := skc HB.out hx325_4
             replace hx325_5 := skc HB.out hx325_5
             replace hx325_6 := skc HB.out hx325_6
             replace hx325_7 := skc HB.out hx325_7
             replace hx325_8 := skc HB.out hx325_8
             replace hx325_9 := skc HB.out hx325_9
             replace hx325_10 := skc HB.out hx325_10
             have HR325_8 := asd hi325_8
             have HC325_8 := asd hl325_8
             clear hi325_8 hl325_8
             replace p325 := eq_true p325
             replace q325 := eq_true q325
             go_wp2_with (first | ((with_reducible refine gate_dst (N := 7) rfl ?_); refine box_event ?hg (N := 7) ?hd (cs := #[.int .i64 0, .int .i64 0, .int .i64 0, .int .i64 0, .int .i64 0, .bool false, .int .i64 0, .int .i64 0, .slice none 0 0, .int .i64 0, .int .i64 0]) (t := 38) ?hr ?_; (case hd => rfl); (case hg => rfl); (case hr => first | (go_simp; done) | (go_simp; rfl)); intro gb326 hg w17 hbox hb; have n0_ := asd (Kd.R_below (skR HO_5.out) hb); have n1_ := asd (below_step (skB HB.out) hb); have n2_ := asd (hbox); have n3_ := asd ((by rw [hg]; exact (below_size (skB HB.out)) : w.heap.size ≤ gb326)); have n4_ := asd ((by rw [hg]; exact (below_size (skB HB.out)) : w.heap.size ≤ gb326)); clear HO_5; clear HB; have HO_5 := n0_; have HB := n1_; have BK326 := n2_; have GW326 := n3_; have GE326 := n4_; clear n0_ n1_ n2_ n3_ n4_; clear hb hbox hg; have hcz18_0 : w17.cell? ⟨gb326, 0, none⟩ = some (.int .i64 0) := (blk_cell BK326.out 0).trans rfl; have hcz18_1 : w17.cell? ⟨gb326, 1, none⟩ = some (.int .i64 0) := (blk_cell BK326.out 1).trans rfl; have hcz18_2 : w17.cell? ⟨gb326, 2, none⟩ = some (.int .i64 0) := (blk_cell BK326.out 2).trans rfl; have hcz18_3 : w17.cell? ⟨gb326, 3, none⟩ = some (.int .i64 0) := (blk_cell BK326.out 3).trans rfl; have hcz18_4 : w17.cell? ⟨gb326, 4, none⟩ = some (.int .i64 0) := (blk_cell BK326.out 4).trans rfl; have hcz18_5 : w17.cell? ⟨gb326, 5, none⟩ = some (.bool false) := (blk_cell BK326.out 5).trans rfl; have hcz18_6 : w17.cell? ⟨gb326, 6, none⟩ = some (.int .i64 0) := (blk_cell BK326.out 6).trans rfl; have hcz18_7 : w17.cell? ⟨gb326, 7, none⟩ = some (.int .i64 0) := (blk_cell BK326.out 7).trans rfl; have hcz18_8 : w17.cell? ⟨gb326, 8, none⟩ = some (.slice none 0 0) := (blk_cell BK326.out 8).trans rfl; have hcz18_9 : w17.cell? ⟨gb326, 9, none⟩ = some (.int .i64 0) := (blk_cell BK326.out 9).trans rfl; have hcz18_10 : w17.cell? ⟨gb326, 10, none⟩ = some (.int .i64 0) := (blk_cell BK326.out 10).trans rfl; have hfz18_0 := blk_frozen BK326.out 0; have hfz18_1 := blk_frozen BK326.out 1; have hfz18_2 := blk_frozen BK326.out 2; have hfz18_3 := blk_frozen BK326.out 3; have hfz18_4 := blk_frozen BK326.out 4; have hfz18_5 := blk_frozen BK326.out 5; have hfz18_6 := blk_frozen BK326.out 6; have hfz18_7 := blk_frozen BK326.out 7; have hfz18_8 := blk_frozen BK326.out 8; have hfz18_9 := blk_frozen BK326.out 9; have hfz18_10 := blk_frozen BK326.out 10) | ((with_reducible refine gate_store (t := 38) (p := 7) rfl ?_); refine store_event (t := 38) (p := 7) (v := ?vo_w19) (w1 := (((((((((((w17.setCell ⟨gb326, 0, none⟩ (.int .i64 ((J38 l1 x13_1).f0))).setCell ⟨gb326, 1, none⟩ (.int .i64 ((J38 l1 x13_1).f1.f0))).setCell ⟨gb326, 2, none⟩ (.int .i64 ((J38 l1 x13_1).f1.f1))).setCell ⟨gb326, 3, none⟩ (.int .i64 ((J38 l1 x13_1).f1.f2))).setCell ⟨gb326, 4, none⟩ (.int .i64 ((J38 l1 x13_1).f1.f3))).setCell ⟨gb326, 5, none⟩ (.bool ((J38 l1 x13_1).f2.f0))).setCell ⟨gb326, 6, none⟩ (.int .i64 ((J38 l1 x13_1).f2.f1))).setCell ⟨gb326, 7, none⟩ (.int .i64 ((J38 l1 x13_1).f2.f2))).setCell ⟨gb326, 8, none⟩ (.slice A325_8 ((J38 l1 x13_1).f2.f3).length c325_8)).setCell ⟨gb326, 9, none⟩ (.int .i64 ((J38 l1 x13_1).f3))).setCell ⟨gb326, 10, none⟩ (.int .i64 ((J38 l1 x13_1).f4)))) ?hg ?ho ?hn ?hr ?_; (case ho => rfl); (case hg => rfl); (case hn => rfl); (case hr => first | (go_simp; done) | (go_simp; rfl)); intro w19 hw; have n0_ : Aside0 (Kd.R (Kd.int .i64) 3 w19 w.heap.size (fun _ => True) v323 x5_1) := ⟨(by rw [hw]; exact (skR (Kd.R_mono (Kd.R_far (p := ⟨gb326, 10, none⟩) (Kd.R_far (p := ⟨gb326, 9, none⟩) (Kd.R_far (p := ⟨gb326, 8, none⟩) (Kd.R_far (p := ⟨gb326, 7, none⟩) (Kd.R_far (p := ⟨gb326, 6, none⟩) (Kd.R_far (p := ⟨gb326, 5, none⟩) (Kd.R_far (p := ⟨gb326, 4, none⟩) (Kd.R_far (p := ⟨gb326, 3, none⟩) (Kd.R_far (p := ⟨gb326, 2, none⟩) (Kd.R_far (p := ⟨gb326, 1, none⟩) (Kd.R_far (p := ⟨gb326, 0, none⟩) (Kd.R_types HO_5.out BK326.out (by decide)) (fun _ hk => hk.2) (.int .i64 ((J38 l1 x13_1).f0))) (fun _ hk => hk.2) (.int .i64 ((J38 l1 x13_1).f1.f0))) (fun _ hk => hk.2) (.int .i64 ((J38 l1 x13_1).f1.f1))) (fun _ hk => hk.2) (.int .i64 ((J38 l1 x13_1).f1.f2))) (fun _ hk => hk.2) (.int .i64 ((J38 l1 x13_1).f1.f3))) (fun _ hk => hk.2) (.bool ((J38 l1 x13_1).f2.f0))) (fun _ hk => hk.2) (.int .i64 ((J38 l1 x13_1).f2.f1))) (fun _ hk => hk.2) (.int .i64 ((J38 l1 x13_1).f2.f2))) (fun _ hk => hk.2) (.slice A325_8 ((J38 l1 x13_1).f2.f3).length c325_8)) (fun _ hk => hk.2) (.int .i64 ((J38 l1 x13_1).f3))) (fun _ hk => hk.2) (.int .i64 ((J38 l1 x13_1).f4))) (fun _ hk => trivial))))⟩; have n1_ : Aside0 (w19.heap[gb326]? = some (.cells #[.int .i64 ((J38 l1 x13_1).f0), .int .i64 ((J38 l1 x13_1).f1.f0), .int .i64 ((J38 l1 x13_1).f1.f1), .int .i64 ((J38 l1 x13_1).f1.f2), .int .i64 ((J38 l1 x13_1).f1.f3), .bool ((J38 l1 x13_1).f2.f0), .int .i64 ((J38 l1 x13_1).f2.f1), .int .i64 ((J38 l1 x13_1).f2.f2), .slice A325_8 ((J38 l1 x13_1).f2.f3).length c325_8, .int .i64 ((J38 l1 x13_1).f3), .int .i64 ((J38 l1 x13_1).f4)] 38 (0, 0))) := ⟨(by rw [hw]; exact (by refine skk ?_; refine blk_put (cs := #[.int .i64 ((J38 l1 x13_1).f0), .int .i64 ((J38 l1 x13_1).f1.f0), .int .i64 ((J38 l1 x13_1).f1.f1), .int .i64 ((J38 l1 x13_1).f1.f2), .int .i64 ((J38 l1 x13_1).f1.f3), .bool ((J38 l1 x13_1).f2.f0), .int .i64 ((J38 l1 x13_1).f2.f1), .int .i64 ((J38 l1 x13_1).f2.f2), .slice A325_8 ((J38 l1 x13_1).f2.f3).length c325_8, .int .i64 ((J38 l1 x13_1).f3), .int .i64 0]) ?_ 10 _ rfl; refine skk ?_; refine blk_put (cs := #[.int .i64 ((J38 l1 x13_1).f0), .int .i64 ((J38 l1 x13_1).f1.f0), .int .i64 ((J38 l1 x13_1).f1.f1), .int .i64 ((J38 l1 x13_1).f1.f2), .int .i64 ((J38 l1 x13_1).f1.f3), .bool ((J38 l1 x13_1).f2.f0), .int .i64 ((J38 l1 x13_1).f2.f1), .int .i64 ((J38 l1 x13_1).f2.f2), .slice A325_8 ((J38 l1 x13_1).f2.f3).length c325_8, .int .i64 0, .int .i64 0]) ?_ 9 _ rfl; refine skk ?_; refine blk_put (cs := #[.int .i64 ((J38 l1 x13_1).f0), .int .i64 ((J38 l1 x13_1).f1.f0), .int .i64 ((J38 l1 x13_1).f1.f1), .int .i64 ((J38 l1 x13_1).f1.f2), .int .i64 ((J38 l1 x13_1).f1.f3), .bool ((J38 l1 x13_1).f2.f0), .int .i64 ((J38 l1 x13_1).f2.f1), .int .i64 ((J38 l1 x13_1).f2.f2), .slice none 0 0, .int .i64 0, .int .i64 0]) ?_ 8 _ rfl; refine skk ?_; refine blk_put (cs := #[.int .i64 ((J38 l1 x13_1).f0), .int .i64 ((J38 l1 x13_1).f1.f0), .int .i64 ((J38 l1 x13_1).f1.f1), .int .i64 ((J38 l1 x13_1).f1.f2), .int .i64 ((J38 l1 x13_1).f1.f3), .bool ((J38 l1 x13_1).f2.f0), .int .i64 ((J38 l1 x13_1).f2.f1), .int .i64 0, .slice none 0 0, .int .i64 0, .int .i64 0]) ?_ 7 _ rfl; refine skk ?_; refine blk_put (cs := #[.int .i64 ((J38 l1 x13_1).f0), .int .i64 ((J38 l1 x13_1).f1.f0), .int .i64 ((J38 l1 x13_1).f1.f1), .int .i64 ((J38 l1 x13_1).f1.f2), .int .i64 ((J38 l1 x13_1).f1.f3), .bool ((J38 l1 x13_1).f2.f0), .int .i64 0, .int .i64 0, .slice none 0 0, .int .i64 0, .int .i64 0]) ?_ 6 _ rfl; refine skk ?_; refine blk_put (cs := #[.int .i64 ((J38 l1 x13_1).f0), .int .i64 ((J38 l1 x13_1).f1.f0), .int .i64 ((J38 l1 x13_1).f1.f1), .int .i64 ((J38 l1 x13_1).f1.f2), .int .i64 ((J38 l1 x13_1).f1.f3), .bool false, .int .i64 0, .int .i64 0, .slice none 0 0, .int .i64 0, .int .i64 0]) ?_ 5 _ rfl; refine skk ?_; refine blk_put (cs := #[.int .i64 ((J38 l1 x13_1).f0), .int .i64 ((J38 l1 x13_1).f1.f0), .int .i64 ((J38 l1 x13_1).f1.f1), .int .i64 ((J38 l1 x13_1).f1.f2), .int .i64 0, .bool false, .int .i64 0, .int .i64 0, .slice none 0 0, .int .i64 0, .int .i64 0]) ?_ 4 _ rfl; refine skk ?_; refine blk_put (cs := #[.int .i64 ((J38 l1 x13_1).f0), .int .i64 ((J38 l1 x13_1).f1.f0), .int .i64 ((J38 l1 x13_1).f1.f1), .int .i64 0, .int .i64 0, .bool false, .int .i64 0, .int .i64 0, .slice none 0 0, .int .i64 0, .int .i64 0]) ?_ 3 _ rfl; refine skk ?_; refine blk_put (cs := #[.int .i64 ((J38 l1 x13_1).f0), .int .i64 ((J38 l1 x13_1).f1.f0), .int .i64 0, .int .i64 0, .int .i64 0, .bool false, .int .i64 0, .int .i64 0, .slice none 0 0, .int .i64 0, .int .i64 0]) ?_ 2 _ rfl; refine skk ?_; refine blk_put (cs := #[.int .i64 ((J38 l1 x13_1).f0), .int .i64 0, .int .i64 0, .int .i64 0, .int .i64 0, .bool false, .int .i64 0, .int .i64 0, .slice none 0 0, .int .i64 0, .int .i64 0]) ?_ 1 _ rfl; refine skk ?_; refine blk_put (cs := #[.int .i64 0, .int .i64 0, .int .i64 0, .int .i64 0, .int .i64 0, .bool false, .int .i64 0, .int .i64 0, .slice none 0 0, .int .i64 0, .int .i64 0]) ?_ 0 _ rfl; refine skk ?_; exact BK326.out))⟩; have n2_ : Aside0 (Below w.heap.size w w19) := ⟨(by rw [hw]; exact (skG HB.out GE326.out GE326.out))⟩; clear hw; clear HO_5; clear BK326; clear HB; have HO_5 := n0_; have BK326 := n1_; have HB := n2_; clear n0_ n1_ n2_; have hcz20_0 : w19.cell? ⟨gb326, 0, none⟩ = some (.int .i64 ((J38 l1 x13_1).f0)) := (blk_cell BK326.out 0).trans rfl; have hcz20_1 : w19.cell? ⟨gb326, 1, none⟩ = some (.int .i64 ((J38 l1 x13_1).f1.f0)) := (blk_cell BK326.out 1).trans rfl; have hcz20_2 : w19.cell? ⟨gb326, 2, none⟩ = some (.int .i64 ((J38 l1 x13_1).f1.f1)) := (blk_cell BK326.out 2).trans rfl; have hcz20_3 : w19.cell? ⟨gb326, 3, none⟩ = some (.int .i64 ((J38 l1 x13_1).f1.f2)) := (blk_cell BK326.out 3).trans rfl; have hcz20_4 : w19.cell? ⟨gb326, 4, none⟩ = some (.int .i64 ((J38 l1 x13_1).f1.f3)) := (blk_cell BK326.out 4).trans rfl; have hcz20_5 : w19.cell? ⟨gb326, 5, none⟩ = some (.bool ((J38 l1 x13_1).f2.f0)) := (blk_cell BK326.out 5).trans rfl; have hcz20_6 : w19.cell? ⟨gb326, 6, none⟩ = some (.int .i64 ((J38 l1 x13_1).f2.f1)) := (blk_cell BK326.out 6).trans rfl; have hcz20_7 : w19.cell? ⟨gb326, 7, none⟩ = some (.int .i64 ((J38 l1 x13_1).f2.f2)) := (blk_cell BK326.out 7).trans rfl; have hcz20_8 : w19.cell? ⟨gb326, 8, none⟩ = some (.slice A325_8 ((J38 l1 x13_1).f2.f3).length c325_8) := (blk_cell BK326.out 8).trans rfl; have hcz20_9 : w19.cell? ⟨gb326, 9, none⟩ = some (.int .i64 ((J38 l1 x13_1).f3)) := (blk_cell BK326.out 9).trans rfl; have hcz20_10 : w19.cell? ⟨gb326, 10, none⟩ = some (.int .i64 ((J38 l1 x13_1).f4)) := (blk_cell BK326.out 10).trans rfl; have hfz20_0 := blk_frozen BK326.out 0; have hfz20_1 := blk_frozen BK326.out 1; have hfz20_2 := blk_frozen BK326.out 2; have hfz20_3 := blk_frozen BK326.out 3; have hfz20_4 := blk_frozen BK326.out 4; have hfz20_5 := blk_frozen BK326.out 5; have hfz20_6 := blk_frozen BK326.out 6; have hfz20_7 := blk_frozen BK326.out 7; have hfz20_8 := blk_frozen BK326.out 8; have hfz20_9 := blk_frozen BK326.out 9; have hfz20_10 := blk_frozen BK326.out 10; have p12 : 0 ≤ (((J38 l1 x13_1).f3) : Int) := dt; have q12 : (((J38 l1 x13_1).f3) : Int) < ((x5_1.length : Int) : Int) := dt; obtain ⟨go12, co12, eo12, gb12, gl12, cl12, HG12⟩ := Kd.R_form HO_5.out (by omega); (first | cases eo12 | (injection eo12 with ea_ en_ ec_; (first | subst ea_ | (injection ea_ with ea_; subst ea_)); subst ec_; clear en_)); have GB12 := asd gb12; have GG12 := asd HG12; clear gb12 gl12 HG12; obtain ⟨hx12_0, hf12_0⟩ := Kd.R_celln 0 HO_5.out (((J38 l1 x13_1).f3) : Int) p12 q12; replace p12 := eq_true p12; replace q12 := eq_true q12; obtain ⟨hy21_, hz21_⟩ := Kd.R_celln 0 HO_5.out (((J38 l1 x13_1).f3) : Int) dt dt; have HP21 := Kd.R_putg HO_5.out (((J38 l1 x13_1).f3) : Int) x13_1) | ((with_reducible refine gate_store (t := 3) (p := 22) rfl ?_); refine store_event (t := 3) (p := 22) (v := ?vo_w22) (w1 := (w19.setCell ⟨go12, (((J38 l1 x13_1).f3) : Int).toNat, none⟩ (.int .i64 x13_1))) ?hg ?ho ?hn ?hr ?_; (case ho => rfl); (case hg => rfl); (case hn => rfl); (case hr => first | (go_simp; done) | (go_simp; rfl)); intro w22 hw; have hg : w19.grownBy w22 (some go12) := (by rw [hw]; exact HP21.2); have hp_ : Kd.R (Kd.int .i64) 3 w22 w.heap.size (fun _ => True) (.slice (some ⟨go12, 0, none⟩) x5_1.length co12) y327 := (by rw [hw, Ny327.out]; exact HP21.1); clear HP21; have n0_ := asd (hp_); have n1_ := asd (blk_grown (g := gb326) (o := .cells #[.int .i64 ((J38 l1 x13_1).f0), .int .i64 ((J38 l1 x13_1).f1.f0), .int .i64 ((J38 l1 x13_1).f1.f1), .int .i64 ((J38 l1 x13_1).f1.f2), .int .i64 ((J38 l1 x13_1).f1.f3), .bool ((J38 l1 x13_1).f2.f0), .int .i64 ((J38 l1 x13_1).f2.f1), .int .i64 ((J38 l1 x13_1).f2.f2), .slice A325_8 ((J38 l1 x13_1).f2.f3).length c325_8, .int .i64 ((J38 l1 x13_1).f3), .int .i64 ((J38 l1 x13_1).f4)] 38 (0, 0)) (skK BK326.out) hg (Kd.R_ne HO_5.out BK326.out (by decide))); have n2_ := asd ((by rw [hw]; exact below_set (HB.out) GB12.out : Below w.heap.size w w22)); clear HO_5; clear BK326; clear HB; have HO_5 := n0_; have BK326 := n1_; have HB := n2_; clear n0_ n1_ n2_; clear hg hw hp_; have hcz23_0 : w22.cell? ⟨gb326, 0, none⟩ = some (.int .i64 ((J38 l1 x13_1).f0)) := (blk_cell BK326.out 0).trans rfl; have hcz23_1 : w22.cell? ⟨gb326, 1, none⟩ = some (.int .i64 ((J38 l1 x13_1).f1.f0)) := (blk_cell BK326.out 1).trans rfl; have hcz23_2 : w22.cell? ⟨gb326, 2, none⟩ = some (.int .i64 ((J38 l1 x13_1).f1.f1)) := (blk_cell BK326.out 2).trans rfl; have hcz23_3 : w22.cell? ⟨gb326, 3, none⟩ = some (.int .i64 ((J38 l1 x13_1).f1.f2)) := (blk_cell BK326.out 3).trans rfl; have hcz23_4 : w22.cell? ⟨gb326, 4, none⟩ = some (.int .i64 ((J38 l1 x13_1).f1.f3)) := (blk_cell BK326.out 4).trans rfl; have hcz23_5 : w22.cell? ⟨gb326, 5, none⟩ = some (.bool ((J38 l1 x13_1).f2.f0)) := (blk_cell BK326.out 5).trans rfl; have hcz23_6 : w22.cell? ⟨gb326, 6, none⟩ = some (.int .i64 ((J38 l1 x13_1).f2.f1)) := (blk_cell BK326.out 6).trans rfl; have hcz23_7 : w22.cell? ⟨gb326, 7, none⟩ = some (.int .i64 ((J38 l1 x13_1).f2.f2)) := (blk_cell BK326.out 7).trans rfl; have hcz23_8 : w22.cell? ⟨gb326, 8, none⟩ = some (.slice A325_8 ((J38 l1 x13_1).f2.f3).length c325_8) := (blk_cell BK326.out 8).trans rfl; have hcz23_9 : w22.cell? ⟨gb326, 9, none⟩ = some (.int .i64 ((J38 l1 x13_1).f3)) := (blk_cell BK326.out 9).trans rfl; have hcz23_10 : w22.cell? ⟨gb326, 10, none⟩ = some (.int .i64 ((J38 l1 x13_1).f4)) := (blk_cell BK326.out 10).trans rfl; have hfz23_0 := blk_frozen BK326.out 0; have hfz23_1 := blk_frozen BK326.out 1; have hfz23_2 := blk_frozen BK326.out 2; have hfz23_3 := blk_frozen BK326.out 3; have hfz23_4 := blk_frozen BK326.out 4; have hfz23_5 := blk_frozen BK326.out 5; have hfz23_6 := blk_frozen BK326.out 6; have hfz23_7 := blk_frozen BK326.out 7; have hfz23_8 := blk_frozen BK326.out 8; have hfz23_9 := blk_frozen BK326.out 9; have hfz23_10 := blk_frozen BK326.out 10; have p16 : 0 ≤ (((J38 l1 x13_1).f4) : Int) := dt; have q16 : (((J38 l1 x13_1).f4) : Int) < ((x5_1.length : Int) : Int) := dt; obtain ⟨hx16_0, hf16_0⟩ := Kd.R_celln 0 HO_5.out (((J38 l1 x13_1).f4) : Int) p16 q16; replace p16 := eq_true p16; replace q16 := eq_true q16; obtain ⟨hy24_, hz24_⟩ := Kd.R_celln 0 HO_5.out (((J38 l1 x13_1).f4) : Int) dt dt; have HP24 := Kd.R_putg HO_5.out (((J38 l1 x13_1).f4) : Int) x13_1) | ((with_reducible refine gate_store (t := 3) (p := 30) rfl ?_); refine store_event (t := 3) (p := 30) (v := ?vo_w25) (w1 := (w22.setCell ⟨go12, (((J38 l1 x13_1).f4) : Int).toNat, none⟩ (.int .i64 x13_1))) ?hg ?ho ?hn ?hr ?_; (case ho => rfl); (case hg => rfl); (case hn => rfl); (case hr => first | (go_simp; done) | (go_simp; rfl)); intro w25 hw; have hg : w22.grownBy w25 (some go12) := (by rw [hw]; exact HP24.2); have hp_ : Kd.R (Kd.int .i64) 3 w25 w.heap.size (fun _ => True) (.slice (some ⟨go12, 0, none⟩) x5_1.length co12) y328 := (by rw [hw, Ny328.out]; exact HP24.1); clear HP24; have n0_ := asd (hp_); have n1_ := asd (blk_grown (g := gb326) (o := .cells #[.int .i64 ((J38 l1 x13_1).f0), .int .i64 ((J38 l1 x13_1).f1.f0), .int .i64 ((J38 l1 x13_1).f1.f1), .int .i64 ((J38 l1 x13_1).f1.f2), .int .i64 ((J38 l1 x13_1).f1.f3), .bool ((J38 l1 x13_1).f2.f0), .int .i64 ((J38 l1 x13_1).f2.f1), .int .i64 ((J38 l1 x13_1).f2.f2), .slice A325_8 ((J38 l1 x13_1).f2.f3).length c325_8, .int .i64 ((J38 l1 x13_1).f3), .int .i64 ((J38 l1 x13_1).f4)] 38 (0, 0)) (skK BK326.out) hg (Kd.R_ne HO_5.out BK326.out (by decide))); have n2_ := asd ((by rw [hw]; exact below_set (HB.out) GB12.out : Below w.heap.size w w25)); clear HO_5; clear BK326; clear HB; have HO_5 := n0_; have BK326 := n1_; have HB := n2_; clear n0_ n1_ n2_; clear hg hw hp_))
             go_roundg k1
             case measure => have := HK1.out; omega
             case rel => exact ⟨(y328), (wrap64 (x13_1 + 1)), rs, H', ⟨by have := HK1.out; omega⟩, ⟨skR HO_5.out⟩, ⟨skG HB.out GE326.out GE326.out⟩⟩
            ·
             rw [if_neg c15] at H
             exact absurd H (by simp)
           ·
            rw [if_neg c14] at H
            exact absurd H (by simp)
          ·
           rw [if_neg c13] at H
           have c13b0 : decide (0 ≤ ((J38 l1 x13_1).f4)) = false := decide_eq_false c13
           clear c13
           have H' := asd H
           clear H
           have p325 : 0 ≤ (x13_1 : Int) := dt
           have q325 : x13_1 < (l1.length : Int) := dt
           obtain ⟨ad325, A325_8, c325_8, e325, hx325_0, hx325_1, hx325_2, hx325_3, hx325_4, hx325_5, hx325_6, hx325_7, hx325_8, hx325_9, hx325_10, hl325_8, hi325_8⟩ := at_T38 HR1.out x13_1 p325 q325
           cases e325
           replace hx325_0 := skc HB.out hx325_0
           replace hx325_1 := skc HB.out hx325_1
           replace hx325_2 := skc HB.out hx325_2
           replace hx325_3 := skc HB.out hx325_3
           replace hx325_4 := skc HB.out hx325_4
           replace hx325_5 := skc HB.out hx325_5
           replace hx325_6 := skc HB.out hx325_6
           replace hx325_7 := skc HB.out hx325_7
           replace hx325_8 := skc HB.out hx325_8
           replace hx325_9 := skc HB.out hx325_9
           replace hx325_10 := skc HB.out hx325_10
           have HR325_8 := asd hi325_8
           have HC325_8 := asd hl325_8
           clear hi325_8 hl325_8
           replace p325 := eq_true p325
           replace q325 := eq_true q325
           go_wp2_with (first | ((with_reducible refine gate_dst (N := 7) rfl ?_); refine box_event ?hg (N := 7) ?hd (cs := #[.int .i64 0, .int .i64 0, .int .i64 0, .int .i64 0, .int .i64 0, .bool false, .int .i64 0, .int .i64 0, .slice none 0 0, .int .i64 0, .int .i64 0]) (t := 38) ?hr ?_; (case hd => rfl); (case hg => rfl); (case hr => first | (go_simp; done) | (go_simp; rfl)); intro gb326 hg w26 hbox hb; have n0_ := asd (Kd.R_below (skR HO_5.out) hb); have n1_ := asd (below_step (skB HB.out) hb); have n2_ := asd (hbox); have n3_ := asd ((by rw [hg]; exact (below_size (skB HB.out)) : w.heap.size ≤ gb326)); have n4_ := asd ((by rw [hg]; exact (below_size (skB HB.out)) : w.heap.size ≤ gb326)); clear HO_5; clear HB; have HO_5 := n0_; have HB := n1_; have BK326 := n2_; have GW326 := n3_; have GE326 := n4_; clear n0_ n1_ n2_ n3_ n4_; clear hb hbox hg; have hcz27_0 : w26.cell? ⟨gb326, 0, none⟩ = some (.int .i64 0) := (blk_cell BK326.out 0).trans rfl; have hcz27_1 : w26.cell? ⟨gb326, 1, none⟩ = some (.int .i64 0) := (blk_cell BK326.out 1).trans rfl; have hcz27_2 : w26.cell? ⟨gb326, 2, none⟩ = some (.int .i64 0) := (blk_cell BK326.out 2).trans rfl; have hcz27_3 : w26.cell? ⟨gb326, 3, none⟩ = some (.int .i64 0) := (blk_cell BK326.out 3).trans rfl; have hcz27_4 : w26.cell? ⟨gb326, 4, none⟩ = some (.int .i64 0) := (blk_cell BK326.out 4).trans rfl; have hcz27_5 : w26.cell? ⟨gb326, 5, none⟩ = some (.bool false) := (blk_cell BK326.out 5).trans rfl; have hcz27_6 : w26.cell? ⟨gb326, 6, none⟩ = some (.int .i64 0) := (blk_cell BK326.out 6).trans rfl; have hcz27_7 : w26.cell? ⟨gb326, 7, none⟩ = some (.int .i64 0) := (blk_cell BK326.out 7).trans rfl; have hcz27_8 : w26.cell? ⟨gb326, 8, none⟩ = some (.slice none 0 0) := (blk_cell BK326.out 8).trans rfl; have hcz27_9 : w26.cell? ⟨gb326, 9, none⟩ = some (.int .i64 0) := (blk_cell BK326.out 9).trans rfl; have hcz27_10 : w26.cell? ⟨gb326, 10, none⟩ = some (.int .i64 0) := (blk_cell BK326.out 10).trans rfl; have hfz27_0 := blk_frozen BK326.out 0; have hfz27_1 := blk_frozen BK326.out 1; have hfz27_2 := blk_frozen BK326.out 2; have hfz27_3 := blk_frozen BK326.out 3; have hfz27_4 := blk_frozen BK326.out 4; have hfz27_5 := blk_frozen BK326.out 5; have hfz27_6 := blk_frozen BK326.out 6; have hfz27_7 := blk_frozen BK326.out 7; have hfz27_8 := blk_frozen BK326.out 8; have hfz27_9 := blk_frozen BK326.out 9; have hfz27_10 := blk_frozen BK326.out 10) | ((with_reducible refine gate_store (t := 38) (p := 7) rfl ?_); refine store_event (t := 38) (p := 7) (v := ?vo_w28) (w1 := (((((((((((w26.setCell ⟨gb326, 0, none⟩ (.int .i64 ((J38 l1 x13_1).f0))).setCell ⟨gb326, 1, none⟩ (.int .i64 ((J38 l1 x13_1).f1.f0))).setCell ⟨gb326, 2, none⟩ (.int .i64 ((J38 l1 x13_1).f1.f1))).setCell ⟨gb326, 3, none⟩ (.int .i64 ((J38 l1 x13_1).f1.f2))).setCell ⟨gb326, 4, none⟩ (.int .i64 ((J38 l1 x13_1).f1.f3))).setCell ⟨gb326, 5, none⟩ (.bool ((J38 l1 x13_1).f2.f0))).setCell ⟨gb326, 6, none⟩ (.int .i64 ((J38 l1 x13_1).f2.f1))).setCell ⟨gb326, 7, none⟩ (.int .i64 ((J38 l1 x13_1).f2.f2))).setCell ⟨gb326, 8, none⟩ (.slice A325_8 ((J38 l1 x13_1).f2.f3).length c325_8)).setCell ⟨gb326, 9, none⟩ (.int .i64 ((J38 l1 x13_1).f3))).setCell ⟨gb326, 10, none⟩ (.int .i64 ((J38 l1 x13_1).f4)))) ?hg ?ho ?hn ?hr ?_; (case ho => rfl); (case hg => rfl); (case hn => rfl); (case hr => first | (go_simp; done) | (go_simp; rfl)); intro w28 hw; have n0_ : Aside0 (Kd.R (Kd.int .i64) 3 w28 w.heap.size (fun _ => True) v323 x5_1) := ⟨(by rw [hw]; exact (skR (Kd.R_mono (Kd.R_far (p := ⟨gb326, 10, none⟩) (Kd.R_far (p := ⟨gb326, 9, none⟩) (Kd.R_far (p := ⟨gb326, 8, none⟩) (Kd.R_far (p := ⟨gb326, 7, none⟩) (Kd.R_far (p := ⟨gb326, 6, none⟩) (Kd.R_far (p := ⟨gb326, 5, none⟩) (Kd.R_far (p := ⟨gb326, 4, none⟩) (Kd.R_far (p := ⟨gb326, 3, none⟩) (Kd.R_far (p := ⟨gb326, 2, none⟩) (Kd.R_far (p := ⟨gb326, 1, none⟩) (Kd.R_far (p := ⟨gb326, 0, none⟩) (Kd.R_types HO_5.out BK326.out (by decide)) (fun _ hk => hk.2) (.int .i64 ((J38 l1 x13_1).f0))) (fun _ hk => hk.2) (.int .i64 ((J38 l1 x13_1).f1.f0))) (fun _ hk => hk.2) (.int .i64 ((J38 l1 x13_1).f1.f1))) (fun _ hk => hk.2) (.int .i64 ((J38 l1 x13_1).f1.f2))) (fun _ hk => hk.2) (.int .i64 ((J38 l1 x13_1).f1.f3))) (fun _ hk => hk.2) (.bool ((J38 l1 x13_1).f2.f0))) (fun _ hk => hk.2) (.int .i64 ((J38 l1 x13_1).f2.f1))) (fun _ hk => hk.2) (.int .i64 ((J38 l1 x13_1).f2.f2))) (fun _ hk => hk.2) (.slice A325_8 ((J38 l1 x13_1).f2.f3).length c325_8)) (fun _ hk => hk.2) (.int .i64 ((J38 l1 x13_1).f3))) (fun _ hk => hk.2) (.int .i64 ((J38 l1 x13_1).f4))) (fun _ hk => trivial))))⟩; have n1_ : Aside0 (w28.heap[gb326]? = some (.cells #[.int .i64 ((J38 l1 x13_1).f0), .int .i64 ((J38 l1 x13_1).f1.f0), .int .i64 ((J38 l1 x13_1).f1.f1), .int .i64 ((J38 l1 x13_1).f1.f2), .int .i64 ((J38 l1 x13_1).f1.f3), .bool ((J38 l1 x13_1).f2.f0), .int .i64 ((J38 l1 x13_1).f2.f1), .int .i64 ((J38 l1 x13_1).f2.f2), .slice A325_8 ((J38 l1 x13_1).f2.f3).length c325_8, .int .i64 ((J38 l1 x13_1).f3), .int .i64 ((J38 l1 x13_1).f4)] 38 (0, 0))) := ⟨(by rw [hw]; exact (by refine skk ?_; refine blk_put (cs := #[.int .i64 ((J38 l1 x13_1).f0), .int .i64 ((J38 l1 x13_1).f1.f0), .int .i64 ((J38 l1 x13_1).f1.f1), .int .i64 ((J38 l1 x13_1).f1.f2), .int .i64 ((J38 l1 x13_1).f1.f3), .bool ((J38 l1 x13_1).f2.f0), .int .i64 ((J38 l1 x13_1).f2.f1), .int .i64 ((J38 l1 x13_1).f2.f2), .slice A325_8 ((J38 l1 x13_1).f2.f3).length c325_8, .int .i64 ((J38 l1 x13_1).f3), .int .i64 0]) ?_ 10 _ rfl; refine skk ?_; refine blk_put (cs := #[.int .i64 ((J38 l1 x13_1).f0), .int .i64 ((J38 l1 x13_1).f1.f0), .int .i64 ((J38 l1 x13_1).f1.f1), .int .i64 ((J38 l1 x13_1).f1.f2), .int .i64 ((J38 l1 x13_1).f1.f3), .bool ((J38 l1 x13_1).f2.f0), .int .i64 ((J38 l1 x13_1).f2.f1), .int .i64 ((J38 l1 x13_1).f2.f2), .slice A325_8 ((J38 l1 x13_1).f2.f3).length c325_8, .int .i64 0, .int .i64 0]) ?_ 9 _ rfl; refine skk ?_; refine blk_put (cs := #[.int .i64 ((J38 l1 x13_1).f0), .int .i64 ((J38 l1 x13_1).f1.f0), .int .i64 ((J38 l1 x13_1).f1.f1), .int .i64 ((J38 l1 x13_1).f1.f2), .int .i64 ((J38 l1 x13_1).f1.f3), .bool ((J38 l1 x13_1).f2.f0), .int .i64 ((J38 l1 x13_1).f2.f1), .int .i64 ((J38 l1 x13_1).f2.f2), .slice none 0 0, .int .i64 0, .int .i64 0]) ?_ 8 _ rfl; refine skk ?_; refine blk_put (cs := #[.int .i64 ((J38 l1 x13_1).f0), .int .i64 ((J38 l1 x13_1).f1.f0), .int .i64 ((J38 l1 x13_1).f1.f1), .int .i64 ((J38 l1 x13_1).f1.f2), .int .i64 ((J38 l1 x13_1).f1.f3), .bool ((J38 l1 x13_1).f2.f0), .int .i64 ((J38 l1 x13_1).f2.f1), .int .i64 0, .slice none 0 0, .int .i64 0, .int .i64 0]) ?_ 7 _ rfl; refine skk ?_; refine blk_put (cs := #[.int .i64 ((J38 l1 x13_1).f0), .int .i64 ((J38 l1 x13_1).f1.f0), .int .i64 ((J38 l1 x13_1).f1.f1), .int .i64 ((J38 l1 x13_1).f1.f2), .int .i64 ((J38 l1 x13_1).f1.f3), .bool ((J38 l1 x13_1).f2.f0), .int .i64 0, .int .i64 0, .slice none 0 0, .int .i64 0, .int .i64 0]) ?_ 6 _ rfl; refine skk ?_; refine blk_put (cs := #[.int .i64 ((J38 l1 x13_1).f0), .int .i64 ((J38 l1 x13_1).f1.f0), .int .i64 ((J38 l1 x13_1).f1.f1), .int .i64 ((J38 l1 x13_1).f1.f2), .int .i64 ((J38 l1 x13_1).f1.f3), .bool false, .int .i64 0, .int .i64 0, .slice none 0 0, .int .i64 0, .int .i64 0]) ?_ 5 _ rfl; refine skk ?_; refine blk_put (cs := #[.int .i64 ((J38 l1 x13_1).f0), .int .i64 ((J38 l1 x13_1).f1.f0), .int .i64 ((J38 l1 x13_1).f1.f1), .int .i64 ((J38 l1 x13_1).f1.f2), .int .i64 0, .bool false, .int .i64 0, .int .i64 0, .slice none 0 0, .int .i64 0, .int .i64 0]) ?_ 4 _ rfl; refine skk ?_; refine blk_put (cs := #[.int .i64 ((J38 l1 x13_1).f0), .int .i64 ((J38 l1 x13_1).f1.f0), .int .i64 ((J38 l1 x13_1).f1.f1), .int .i64 0, .int .i64 0, .bool false, .int .i64 0, .int .i64 0, .slice none 0 0, .int .i64 0, .int .i64 0]) ?_ 3 _ rfl; refine skk ?_; refine blk_put (cs := #[.int .i64 ((J38 l1 x13_1).f0), .int .i64 ((J38 l1 x13_1).f1.f0), .int .i64 0, .int .i64 0, .int .i64 0, .bool false, .int .i64 0, .int .i64 0, .slice none 0 0, .int .i64 0, .int .i64 0]) ?_ 2 _ rfl; refine skk ?_; refine blk_put (cs := #[.int .i64 ((J38 l1 x13_1).f0), .int .i64 0, .int .i64 0, .int .i64 0, .int .i64 0, .bool false, .int .i64 0, .int .i64 0, .slice none 0 0, .int .i64 0, .int .i64 0]) ?_ 1 _ rfl; refine skk ?_; refine blk_put (cs := #[.int .i64 0, .int .i64 0, .int .i64 0, .int .i64 0, .int .i64 0, .bool false, .int .i64 0, .int .i64 0, .slice none 0 0, .int .i64 0, .int .i64 0]) ?_ 0 _ rfl; refine skk ?_; exact BK326.out))⟩; have n2_ : Aside0 (Below w.heap.size w w28) := ⟨(by rw [hw]; exact (skG HB.out GE326.out GE326.out))⟩; clear hw; clear HO_5; clear BK326; clear HB; have HO_5 := n0_; have BK326 := n1_; have HB := n2_; clear n0_ n1_ n2_; have hcz29_0 : w28.cell? ⟨gb326, 0, none⟩ = some (.int .i64 ((J38 l1 x13_1).f0)) := (blk_cell BK326.out 0).trans rfl; have hcz29_1 : w28.cell? ⟨gb326, 1, none⟩ = some (.int .i64 ((J38 l1 x13_1).f1.f0)) := (blk_cell BK326.out 1).trans rfl; have hcz29_2 : w28.cell? ⟨gb326, 2, none⟩ = some (.int .i64 ((J38 l1 x13_1).f1.f1)) := (blk_cell BK326.out 2).trans rfl; have hcz29_3 : w28.cell? ⟨gb326, 3, none⟩ = some (.int .i64 ((J38 l1 x13_1).f1.f2)) := (blk_cell BK326.out 3).trans rfl; have hcz29_4 : w28.cell? ⟨gb326, 4, none⟩ = some (.int .i64 ((J38 l1 x13_1).f1.f3)) := (blk_cell BK326.out 4).trans rfl; have hcz29_5 : w28.cell? ⟨gb326, 5, none⟩ = some (.bool ((J38 l1 x13_1).f2.f0)) := (blk_cell BK326.out 5).trans rfl; have hcz29_6 : w28.cell? ⟨gb326, 6, none⟩ = some (.int .i64 ((J38 l1 x13_1).f2.f1)) := (blk_cell BK326.out 6).trans rfl; have hcz29_7 : w28.cell? ⟨gb326, 7, none⟩ = some (.int .i64 ((J38 l1 x13_1).f2.f2)) := (blk_cell BK326.out 7).trans rfl; have hcz29_8 : w28.cell? ⟨gb326, 8, none⟩ = some (.slice A325_8 ((J38 l1 x13_1).f2.f3).length c325_8) := (blk_cell BK326.out 8).trans rfl; have hcz29_9 : w28.cell? ⟨gb326, 9, none⟩ = some (.int .i64 ((J38 l1 x13_1).f3)) := (blk_cell BK326.out 9).trans rfl; have hcz29_10 : w28.cell? ⟨gb326, 10, none⟩ = some (.int .i64 ((J38 l1 x13_1).f4)) := (blk_cell BK326.out 10).trans rfl; have hfz29_0 := blk_frozen BK326.out 0; have hfz29_1 := blk_frozen BK326.out 1; have hfz29_2 := blk_frozen BK326.out 2; have hfz29_3 := blk_frozen BK326.out 3; have hfz29_4 := blk_frozen BK326.out 4; have hfz29_5 := blk_frozen BK326.out 5; have hfz29_6 := blk_frozen BK326.out 6; have hfz29_7 := blk_frozen BK326.out 7; have hfz29_8 := blk_frozen BK326.out 8; have hfz29_9 := blk_frozen BK326.out 9; have hfz29_10 := blk_frozen BK326.out 10; have p12 : 0 ≤ (((J38 l1 x13_1).f3) : Int) := dt; have q12 : (((J38 l1 x13_1).f3) : Int) < ((x5_1.length : Int) : Int) := dt; obtain ⟨go12, co12, eo12, gb12, gl12, cl12, HG12⟩ := Kd.R_form HO_5.out (by omega); (first | cases eo12 | (injection eo12 with ea_ en_ ec_; (first | subst ea_ | (injection ea_ with ea_; subst ea_)); subst ec_; clear en_)); have GB12 := asd gb12; have GG12 := asd HG12; clear gb12 gl12 HG12; obtain ⟨hx12_0, hf12_0⟩ := Kd.R_celln 0 HO_5.out (((J38 l1 x13_1).f3) : Int) p12 q12; replace p12 := eq_true p12; replace q12 := eq_true q12; obtain ⟨hy30_, hz30_⟩ := Kd.R_celln 0 HO_5.out (((J38 l1 x13_1).f3) : Int) dt dt; have HP30 := Kd.R_putg HO_5.out (((J38 l1 x13_1).f3) : Int) x13_1) | ((with_reducible refine gate_store (t := 3) (p := 22) rfl ?_); refine store_event (t := 3) (p := 22) (v := ?vo_w31) (w1 := (w28.setCell ⟨go12, (((J38 l1 x13_1).f3) : Int).toNat, none⟩ (.int .i64 x13_1))) ?hg ?ho ?hn ?hr ?_; (case ho => rfl); (case hg => rfl); (case hn => rfl); (case hr => first | (go_simp; done) | (go_simp; rfl)); intro w31 hw; have hg : w28.grownBy w31 (some go12) := (by rw [hw]; exact HP30.2); have hp_ : Kd.R (Kd.int .i64) 3 w31 w.heap.size (fun _ => True) (.slice (some ⟨go12, 0, none⟩) x5_1.length co12) y327 := (by rw [hw, Ny327.out]; exact HP30.1); clear HP30; have n0_ := asd (hp_); have n1_ := asd (blk_grown (g := gb326) (o := .cells #[.int .i64 ((J38 l1 x13_1).f0), .int .i64 ((J38 l1 x13_1).f1.f0), .int .i64 ((J38 l1 x13_1).f1.f1), .int .i64 ((J38 l1 x13_1).f1.f2), .int .i64 ((J38 l1 x13_1).f1.f3), .bool ((J38 l1 x13_1).f2.f0), .int .i64 ((J38 l1 x13_1).f2.f1), .int .i64 ((J38 l1 x13_1).f2.f2), .slice A325_8 ((J38 l1 x13_1).f2.f3).length c325_8, .int .i64 ((J38 l1 x13_1).f3), .int .i64 ((J38 l1 x13_1).f4)] 38 (0, 0)) (skK BK326.out) hg (Kd.R_ne HO_5.out BK326.out (by decide))); have n2_ := asd ((by rw [hw]; exact below_set (HB.out) GB12.out : Below w.heap.size w w31)); clear HO_5; clear BK326; clear HB; have HO_5 := n0_; have BK326 := n1_; have HB := n2_; clear n0_ n1_ n2_; clear hg hw hp_; have hcz32_0 : w31.cell? ⟨gb326, 0, none⟩ = some (.int .i64 ((J38 l1 x13_1).f0)) := (blk_cell BK326.out 0).trans rfl; have hcz32_1 : w31.cell? ⟨gb326, 1, none⟩ = some (.int .i64 ((J38 l1 x13_1).f1.f0)) := (blk_cell BK326.out 1).trans rfl; have hcz32_2 : w31.cell? ⟨gb326, 2, none⟩ = some (.int .i64 ((J38 l1 x13_1).f1.f1)) := (blk_cell BK326.out 2).trans rfl; have hcz32_3 : w31.cell? ⟨gb326, 3, none⟩ = some (.int .i64 ((J38 l1 x13_1).f1.f2)) := (blk_cell BK326.out 3).trans rfl; have hcz32_4 : w31.cell? ⟨gb326, 4, none⟩ = some (.int .i64 ((J38 l1 x13_1).f1.f3)) := (blk_cell BK326.out 4).trans rfl; have hcz32_5 : w31.cell? ⟨gb326, 5, none⟩ = some (.bool ((J38 l1 x13_1).f2.f0)) := (blk_cell BK326.out 5).trans rfl; have hcz32_6 : w31.cell? ⟨gb326, 6, none⟩ = some (.int .i64 ((J38 l1 x13_1).f2.f1)) := (blk_cell BK326.out 6).trans rfl; have hcz32_7 : w31.cell? ⟨gb326, 7, none⟩ = some (.int .i64 ((J38 l1 x13_1).f2.f2)) := (blk_cell BK326.out 7).trans rfl; have hcz32_8 : w31.cell? ⟨gb326, 8, none⟩ = some (.slice A325_8 ((J38 l1 x13_1).f2.f3).length c325_8) := (blk_cell BK326.out 8).trans rfl; have hcz32_9 : w31.cell? ⟨gb326, 9, none⟩ = some (.int .i64 ((J38 l1 x13_1).f3)) := (blk_cell BK326.out 9).trans rfl; have hcz32_10 : w31.cell? ⟨gb326, 10, none⟩ = some (.int .i64 ((J38 l1 x13_1).f4)) := (blk_cell BK326.out 10).trans rfl; have hfz32_0 := blk_frozen BK326.out 0; have hfz32_1 := blk_frozen BK326.out 1; have hfz32_2 := blk_frozen BK326.out 2; have hfz32_3 := blk_frozen BK326.out 3; have hfz32_4 := blk_frozen BK326.out 4; have hfz32_5 := blk_frozen BK326.out 5; have hfz32_6 := blk_frozen BK326.out 6; have hfz32_7 := blk_frozen BK326.out 7; have hfz32_8 := blk_frozen BK326.out 8; have hfz32_9 := blk_frozen BK326.out 9; have hfz32_10 := blk_frozen BK326.out 10))
           go_roundg k1
           case measure => have := HK1.out; omega
           case rel => exact ⟨(y327), (wrap64 (x13_1 + 1)), rs, H', ⟨by have := HK1.out; omega⟩, ⟨skR HO_5.out⟩, ⟨skG HB.out GE326.out GE326.out⟩⟩
         ·
          rw [if_neg c11] at H
          exact absurd H (by simp)
        ·
         rw [if_neg c10] at H
         exact absurd H (by simp)
       ·
        rw [if_neg c9] at H
        exact absurd H (by simp)
      ·
       rw [if_neg c8] at H
       exact absurd H (by simp)
     ·
      rw [if_neg c7] at H
      have c7b0 : decide (x13_1 < (l1.length : Int)) = false := decide_eq_false c7
      clear c7
      obtain rfl := Option.some.inj H
      go_wp2
      go_ret
      exact ⟨_, re, skR HO_5.out, skB HB.out⟩
  ·
   rw [if_neg c4] at H
   exact absurd H (by simp)
 ·
  rw [if_neg c3] at H
  exact absurd H (by simp)
end Go.Proofs.Ytagdkmcgepidoaa.P
/- F9 -/
namespace Go.Proofs.Ytagdkmcgepidoaa.P
open Go.RowKit Go.Proofs.YtagdkmcgepidoaaW.PrintWords Go.Proofs.YtagdkmcgepidoaaW.PrintLast Go.Proofs.YtagdkmcgepidoaaW.PrintMore
attribute [local go_sem] max2_int min2_int max_two min_two max_three min_three max_four min_four   -- for this text's walks alone
set_option linter.unusedVariables false
set_option linter.unusedSimpArgs false
def event_ahead.f (a0_0 : Int) (a0_1 : Int) (a0_2 : Int) (a0_3 : Int) (a0_4 : Int) (a0_5 : Bool) (a0_6 : Int) (a0_7 : Int) (l0_8 : List (S70)) (a0_9 : Int) (a0_10 : Int) (a1_0 : Int) (a1_1 : Int) (a1_2 : Int) (a1_3 : Int) (a1_4 : Int) (a1_5 : Bool) (a1_6 : Int) (a1_7 : Int) (l1_8 : List (S70)) (a1_9 : Int) (a1_10 : Int) : Option (Bool) := if a0_10 ≥ 0 then (some (decide (a0_10 < a1_9))) else (some false)
set_option maxHeartbeats 8000000 in
set_option maxRecDepth 100000 in
theorem event_ahead.calls (a0_0 : Int) (a0_1 : Int) (a0_2 : Int) (a0_3 : Int) (a0_4 : Int) (a0_5 : Bool) (a0_6 : Int) (a0_7 : Int) (A0_8 : Option Addr) (c0_8 : Nat) (l0_8 : List (S70)) (a0_9 : Int) (a0_10 : Int) (a1_0 : Int) (a1_1 : Int) (a1_2 : Int) (a1_3 : Int) (a1_4 : Int) (a1_5 : Bool) (a1_6 : Int) (a1_7 : Int) (A1_8 : Option Addr) (c1_8 : Nat) (l1_8 : List (S70)) (a1_9 : Int) (a1_10 : Int) (r : Bool) (w : World) (hr0_8 : Kd.C k70 w A0_8 l0_8.length l0_8) (hc0_8 : l0_8.length ≤ c0_8) (hr1_8 : Kd.C k70 w A1_8 l1_8.length l1_8) (hc1_8 : l1_8.length ≤ c1_8) (h : event_ahead.f a0_0 a0_1 a0_2 a0_3 a0_4 a0_5 a0_6 a0_7 l0_8 a0_9 a0_10 a1_0 a1_1 a1_2 a1_3 a1_4 a1_5 a1_6 a1_7 l1_8 a1_9 a1_10 = some r) :
  Calls Try.prog 47 #[.agg #[.int .i64 a0_0, .int .i64 a0_1, .int .i64 a0_2, .int .i64 a0_3, .int .i64 a0_4, .bool a0_5, .int .i64 a0_6, .int .i64 a0_7, .slice A0_8 l0_8.length c0_8, .int .i64 a0_9, .int .i64 a0_10], .agg #[.int .i64 a1_0, .int .i64 a1_1, .int .i64 a1_2, .int .i64 a1_3, .int .i64 a1_4, .bool a1_5, .int .i64 a1_6, .int .i64 a1_7, .slice A1_8 l1_8.length c1_8, .int .i64 a1_9, .int .i64 a1_10]] w fun e w' => e = .returned (.bool r) ∧ Below w.heap.size w w' := by
 have hu38 := Try.underlying38
 have HR0_8 := asd hr0_8
 have HC0_8 := asd hc0_8
 clear hr0_8 hc0_8
 have HR1_8 := asd hr1_8
 have HC1_8 := asd hc1_8
 clear hr1_8 hc1_8
 have HB := asd (Below.refl w.heap.size w)
 have H : (if a0_10 ≥ 0 then (some (decide (a0_10 < a1_9))) else (some false)) = some r := h
 clear h
 by_cases c3 : a0_10 ≥ 0
 ·
  rw [if_pos c3] at H
  have c3b0 : decide (0 ≤ a0_10) = true := decide_eq_true c3
  clear c3
  obtain rfl := Option.some.inj H
  go_enter Try.func47, Try.ntmps47
  go_wp2_with (first | ((with_reducible refine gate_dst (N := 2) rfl ?_); refine box_event ?hg (N := 2) ?hd (cs := #[.int .i64 a0_0, .int .i64 a0_1, .int .i64 a0_2, .int .i64 a0_3, .int .i64 a0_4, .bool a0_5, .int .i64 a0_6, .int .i64 a0_7, .slice A0_8 l0_8.length c0_8, .int .i64 a0_9, .int .i64 a0_10]) (t := 38) ?hr ?_; (case hd => rfl); (case hg => rfl); (case hr => first | (go_simp; done) | (go_simp; rfl)); intro gb111 hg w4 hbox hb; have n0_ := asd (below_step (skB HB.out) hb); have n1_ := asd (hbox); have n2_ := asd ((by rw [hg]; exact (below_size (skB HB.out)) : w.heap.size ≤ gb111)); have n3_ := asd ((by rw [hg]; exact (below_size (skB HB.out)) : w.heap.size ≤ gb111)); clear HB; have HB := n0_; have BK111 := n1_; have GW111 := n2_; have GE111 := n3_; clear n0_ n1_ n2_ n3_; clear hb hbox hg) | ((with_reducible refine gate_dst (N := 3) rfl ?_); refine box_event ?hg (N := 3) ?hd (cs := #[.int .i64 a1_0, .int .i64 a1_1, .int .i64 a1_2, .int .i64 a1_3, .int .i64 a1_4, .bool a1_5, .int .i64 a1_6, .int .i64 a1_7, .slice A1_8 l1_8.length c1_8, .int .i64 a1_9, .int .i64 a1_10]) (t := 38) ?hr ?_; (case hd => rfl); (case hg => rfl); (case hr => first | (go_simp; done) | (go_simp; rfl)); intro gb112 hg w5 hbox hb; have n0_ := asd (blk_below (g := gb111) (o := .cells #[.int .i64 a0_0, .int .i64 a0_1, .int .i64 a0_2, .int .i64 a0_3, .int .i64 a0_4, .bool a0_5, .int .i64 a0_6, .int .i64 a0_7, .slice A0_8 l0_8.length c0_8, .int .i64 a0_9, .int .i64 a0_10] 38 (0, 0)) (skK BK111.out) hb); have n1_ := asd (below_step (skG HB.out GE111.out GE111.out) hb); have n2_ := asd (hbox); have n3_ := asd ((by rw [hg]; exact (below_size (skG HB.out GE111.out GE111.out)) : w.heap.size ≤ gb112)); have n4_ := asd ((by rw [hg]; exact (below_size (skG HB.out GE111.out GE111.out)) : w.heap.size ≤ gb112)); have n5_ := asd ((by rw [hg]; exact Nat.ne_of_lt (blk_lt (g := gb111) (o := .cells #[.int .i64 a0_0, .int .i64 a0_1, .int .i64 a0_2, .int .i64 a0_3, .int .i64 a0_4, .bool a0_5, .int .i64 a0_6, .int .i64 a0_7, .slice A0_8 l0_8.length c0_8, .int .i64 a0_9, .int .i64 a0_10] 38 (0, 0)) (skK BK111.out)) : gb111 ≠ gb112)); have n6_ := asd ((by rw [hg]; exact Nat.ne_of_gt (blk_lt (g := gb111) (o := .cells #[.int .i64 a0_0, .int .i64 a0_1, .int .i64 a0_2, .int .i64 a0_3, .int .i64 a0_4, .bool a0_5, .int .i64 a0_6, .int .i64 a0_7, .slice A0_8 l0_8.length c0_8, .int .i64 a0_9, .int .i64 a0_10] 38 (0, 0)) (skK BK111.out)) : gb112 ≠ gb111)); clear BK111; clear HB; have BK111 := n0_; have HB := n1_; have BK112 := n2_; have GW112 := n3_; have GE112 := n4_; have NB111_112 := n5_; have NB112_111 := n6_; clear n0_ n1_ n2_ n3_ n4_ n5_ n6_; clear hb hbox hg; have hnb6 := NB111_112.out; have hnc6 := NB112_111.out; have hcz7_0 : w5.cell? ⟨gb111, 0, none⟩ = some (.int .i64 a0_0) := (blk_cell BK111.out 0).trans rfl; have hcz7_1 : w5.cell? ⟨gb111, 1, none⟩ = some (.int .i64 a0_1) := (blk_cell BK111.out 1).trans rfl; have hcz7_2 : w5.cell? ⟨gb111, 2, none⟩ = some (.int .i64 a0_2) := (blk_cell BK111.out 2).trans rfl; have hcz7_3 : w5.cell? ⟨gb111, 3, none⟩ = some (.int .i64 a0_3) := (blk_cell BK111.out 3).trans rfl; have hcz7_4 : w5.cell? ⟨gb111, 4, none⟩ = some (.int .i64 a0_4) := (blk_cell BK111.out 4).trans rfl; have hcz7_5 : w5.cell? ⟨gb111, 5, none⟩ = some (.bool a0_5) := (blk_cell BK111.out 5).trans rfl; have hcz7_6 : w5.cell? ⟨gb111, 6, none⟩ = some (.int .i64 a0_6) := (blk_cell BK111.out 6).trans rfl; have hcz7_7 : w5.cell? ⟨gb111, 7, none⟩ = some (.int .i64 a0_7) := (blk_cell BK111.out 7).trans rfl; have hcz7_8 : w5.cell? ⟨gb111, 8, none⟩ = some (.slice A0_8 l0_8.length c0_8) := (blk_cell BK111.out 8).trans rfl; have hcz7_9 : w5.cell? ⟨gb111, 9, none⟩ = some (.int .i64 a0_9) := (blk_cell BK111.out 9).trans rfl; have hcz7_10 : w5.cell? ⟨gb111, 10, none⟩ = some (.int .i64 a0_10) := (blk_cell BK111.out 10).trans rfl; have hfz7_0 := blk_frozen BK111.out 0; have hfz7_1 := blk_frozen BK111.out 1; have hfz7_2 := blk_frozen BK111.out 2; have hfz7_3 := blk_frozen BK111.out 3; have hfz7_4 := blk_frozen BK111.out 4; have hfz7_5 := blk_frozen BK111.out 5; have hfz7_6 := blk_frozen BK111.out 6; have hfz7_7 := blk_frozen BK111.out 7; have hfz7_8 := blk_frozen BK111.out 8; have hfz7_9 := blk_frozen BK111.out 9; have hfz7_10 := blk_frozen BK111.out 10; have hcz8_0 : w5.cell? ⟨gb112, 0, none⟩ = some (.int .i64 a1_0) := (blk_cell BK112.out 0).trans rfl; have hcz8_1 : w5.cell? ⟨gb112, 1, none⟩ = some (.int .i64 a1_1) := (blk_cell BK112.out 1).trans rfl; have hcz8_2 : w5.cell? ⟨gb112, 2, none⟩ = some (.int .i64 a1_2) := (blk_cell BK112.out 2).trans rfl; have hcz8_3 : w5.cell? ⟨gb112, 3, none⟩ = some (.int .i64 a1_3) := (blk_cell BK112.out 3).trans rfl; have hcz8_4 : w5.cell? ⟨gb112, 4, none⟩ = some (.int .i64 a1_4) := (blk_cell BK112.out 4).trans rfl; have hcz8_5 : w5.cell? ⟨gb112, 5, none⟩ = some (.bool a1_5) := (blk_cell BK112.out 5).trans rfl; have hcz8_6 : w5.cell? ⟨gb112, 6, none⟩ = some (.int .i64 a1_6) := (blk_cell BK112.out 6).trans rfl; have hcz8_7 : w5.cell? ⟨gb112, 7, none⟩ = some (.int .i64 a1_7) := (blk_cell BK112.out 7).trans rfl; have hcz8_8 : w5.cell? ⟨gb112, 8, none⟩ = some (.slice A1_8 l1_8.length c1_8) := (blk_cell BK112.out 8).trans rfl; have hcz8_9 : w5.cell? ⟨gb112, 9, none⟩ = some (.int .i64 a1_9) := (blk_cell BK112.out 9).trans rfl; have hcz8_10 : w5.cell? ⟨gb112, 10, none⟩ = some (.int .i64 a1_10) := (blk_cell BK112.out 10).trans rfl; have hfz8_0 := blk_frozen BK112.out 0; have hfz8_1 := blk_frozen BK112.out 1; have hfz8_2 := blk_frozen BK112.out 2; have hfz8_3 := blk_frozen BK112.out 3; have hfz8_4 := blk_frozen BK112.out 4; have hfz8_5 := blk_frozen BK112.out 5; have hfz8_6 := blk_frozen BK112.out 6; have hfz8_7 := blk_frozen BK112.out 7; have hfz8_8 := blk_frozen BK112.out 8; have hfz8_9 := blk_frozen BK112.out 9; have hfz8_10 := blk_frozen BK112.out 10))
  go_ret
  exact ⟨re, skG HB.out GE111.out GE112.out⟩
 ·
  rw [if_neg c3] at H
  have c3b0 : decide (0 ≤ a0_10) = false := decide_eq_false c3
  clear c3
  obtain rfl := Option.some.inj H
  go_enter Try.func47, Try.ntmps47
  go_wp2_with (first | ((with_reducible refine gate_dst (N := 2) rfl ?_); refine box_event ?hg (N := 2) ?hd (cs := #[.int .i64 a0_0, .int .i64 a0_1, .int .i64 a0_2, .int .i64 a0_3, .int .i64 a0_4, .bool a0_5, .int .i64 a0_6, .int .i64 a0_7, .slice A0_8 l0_8.length c0_8, .int .i64 a0_9, .int .i64 a0_10]) (t := 38) ?hr ?_; (case hd => rfl); (case hg => rfl); (case hr => first | (go_simp; done) | (go_simp; rfl)); intro gb111 hg w9 hbox hb; have n0_ := asd (below_step (skB HB.out) hb); have n1_ := asd (hbox); have n2_ := asd ((by rw [hg]; exact (below_size (skB HB.out)) : w.heap.size ≤ gb111)); have n3_ := asd ((by rw [hg]; exact (below_size (skB HB.out)) : w.heap.size ≤ gb111)); clear HB; have HB := n0_; have BK111 := n1_; have GW111 := n2_; have GE111 := n3_; clear n0_ n1_ n2_ n3_; clear hb hbox hg) | ((with_reducible refine gate_dst (N := 3) rfl ?_); refine box_event ?hg (N := 3) ?hd (cs := #[.int .i64 a1_0, .int .i64 a1_1, .int .i64 a1_2, .int .i64 a1_3, .int .i64 a1_4, .bool a1_5, .int .i64 a1_6, .int .i64 a1_7, .slice A1_8 l1_8.length c1_8, .int .i64 a1_9, .int .i64 a1_10]) (t := 38) ?hr ?_; (case hd => rfl); (case hg => rfl); (case hr => first | (go_simp; done) | (go_simp; rfl)); intro gb112 hg w10 hbox hb; have n0_ := asd (blk_below (g := gb111) (o := .cells #[.int .i64 a0_0, .int .i64 a0_1, .int .i64 a0_2, .int .i64 a0_3, .int .i64 a0_4, .bool a0_5, .int .i64 a0_6, .int .i64 a0_7, .slice A0_8 l0_8.length c0_8, .int .i64 a0_9, .int .i64 a0_10] 38 (0, 0)) (skK BK111.out) hb); have n1_ := asd (below_step (skG HB.out GE111.out GE111.out) hb); have n2_ := asd (hbox); have n3_ := asd ((by rw [hg]; exact (below_size (skG HB.out GE111.out GE111.out)) : w.heap.size ≤ gb112)); have n4_ := asd ((by rw [hg]; exact (below_size (skG HB.out GE111.out GE111.out)) : w.heap.size ≤ gb112)); have n5_ := asd ((by rw [hg]; exact Nat.ne_of_lt (blk_lt (g := gb111) (o := .cells #[.int .i64 a0_0, .int .i64 a0_1, .int .i64 a0_2, .int .i64 a0_3, .int .i64 a0_4, .bool a0_5, .int .i64 a0_6, .int .i64 a0_7, .slice A0_8 l0_8.length c0_8, .int .i64 a0_9, .int .i64 a0_10] 38 (0, 0)) (skK BK111.out)) : gb111 ≠ gb112)); have n6_ := asd ((by rw [hg]; exact Nat.ne_of_gt (blk_lt (g := gb111) (o := .cells #[.int .i64 a0_0, .int .i64 a0_1, .int .i64 a0_2, .int .i64 a0_3, .int .i64 a0_4, .bool a0_5, .int .i64 a0_6, .int .i64 a0_7, .slice A0_8 l0_8.length c0_8, .int .i64 a0_9, .int .i64 a0_10] 38 (0, 0)) (skK BK111.out)) : gb112 ≠ gb111)); clear BK111; clear HB; have BK111 := n0_; have HB := n1_; have BK112 := n2_; have GW112 := n3_; have GE112 := n4_; have NB111_112 := n5_; have NB112_111 := n6_; clear n0_ n1_ n2_ n3_ n4_ n5_ n6_; clear hb hbox hg; have hnb11 := NB111_112.out; have hnc11 := NB112_111.out; have hcz12_0 : w10.cell? ⟨gb111, 0, none⟩ = some (.int .i64 a0_0) := (blk_cell BK111.out 0).trans rfl; have hcz12_1 : w10.cell? ⟨gb111, 1, none⟩ = some (.int .i64 a0_1) := (blk_cell BK111.out 1).trans rfl; have hcz12_2 : w10.cell? ⟨gb111, 2, none⟩ = some (.int .i64 a0_2) := (blk_cell BK111.out 2).trans rfl; have hcz12_3 : w10.cell? ⟨gb111, 3, none⟩ = some (.int .i64 a0_3) := (blk_cell BK111.out 3).trans rfl; have hcz12_4 : w10.cell? ⟨gb111, 4, none⟩ = some (.int .i64 a0_4) := (blk_cell BK111.out 4).trans rfl; have hcz12_5 : w10.cell? ⟨gb111, 5, none⟩ = some (.bool a0_5) := (blk_cell BK111.out 5).trans rfl; have hcz12_6 : w10.cell? ⟨gb111, 6, none⟩ = some (.int .i64 a0_6) := (blk_cell BK111.out 6).trans rfl; have hcz12_7 : w10.cell? ⟨gb111, 7, none⟩ = some (.int .i64 a0_7) := (blk_cell BK111.out 7).trans rfl; have hcz12_8 : w10.cell? ⟨gb111, 8, none⟩ = some (.slice A0_8 l0_8.length c0_8) := (blk_cell BK111.out 8).trans rfl; have hcz12_9 : w10.cell? ⟨gb111, 9, none⟩ = some (.int .i64 a0_9) := (blk_cell BK111.out 9).trans rfl; have hcz12_10 : w10.cell? ⟨gb111, 10, none⟩ = some (.int .i64 a0_10) := (blk_cell BK111.out 10).trans rfl; have hfz12_0 := blk_frozen BK111.out 0; have hfz12_1 := blk_frozen BK111.out 1; have hfz12_2 := blk_frozen BK111.out 2; have hfz12_3 := blk_frozen BK111.out 3; have hfz12_4 := blk_frozen BK111.out 4; have hfz12_5 := blk_frozen BK111.out 5; have hfz12_6 := blk_frozen BK111.out 6; have hfz12_7 := blk_frozen BK111.out 7; have hfz12_8 := blk_frozen BK111.out 8; have hfz12_9 := blk_frozen BK111.out 9; have hfz12_10 := blk_frozen BK111.out 10))
  go_ret
  exact ⟨re, skG HB.out GE111.out GE112.out⟩
end Go.Proofs.Ytagdkmcgepidoaa.P
/- F14 -/
namespace Go.Proofs.Ytagdkmcgepidoaa.P
open Go.RowKit Go.Proofs.YtagdkmcgepidoaaW.PrintWords Go.Proofs.YtagdkmcgepidoaaW.PrintLast Go.Proofs.YtagdkmcgepidoaaW.PrintMore
attribute [local go_sem] max2_int min2_int max_two min_two max_three min_three max_four min_four   -- for this text's walks alone
set_option linter.unusedVariables false
set_option linter.unusedSimpArgs false
def larchlaw05_sample.f  : Option ((List (S67))) := some (([(⟨0, false, (⟨1, 5, 0, 0⟩ : S33), (⟨false, 0, 0, ([] : List (S70))⟩ : S36)⟩ : S67), (⟨1, false, (⟨2, 5, 7, 0⟩ : S33), (⟨false, 0, 0, ([] : List (S70))⟩ : S36)⟩ : S67), (⟨1, true, (⟨2, 5, 7, 0⟩ : S33), (⟨false, 0, 0, ([] : List (S70))⟩ : S36)⟩ : S67), (⟨0, true, (⟨1, 5, 0, 0⟩ : S33), (⟨true, 0, 7, ([] : List (S70))⟩ : S36)⟩ : S67)] : List (S67)))
set_option maxHeartbeats 8000000 in
set_option maxRecDepth 100000 in
theorem larchlaw05_sample.calls  (r : List (S67)) (w : World) (h : larchlaw05_sample.f  = some r) :
  Calls Try.prog 45 #[] w fun e w' => ∃ v0_ : Value, e = .returned (v0_) ∧ Kd.S k67 67 w' w.heap.size (fun _ => True) v0_ r ∧ Below w.heap.size w w' := by
 have hu33 := Try.underlying33
 have hu67 := Try.underlying67
 have hu36 := Try.underlying36
 have HB := asd (Below.refl w.heap.size w)
 have H : (some (([(⟨0, false, (⟨1, 5, 0, 0⟩ : S33), (⟨false, 0, 0, ([] : List (S70))⟩ : S36)⟩ : S67), (⟨1, false, (⟨2, 5, 7, 0⟩ : S33), (⟨false, 0, 0, ([] : List (S70))⟩ : S36)⟩ : S67), (⟨1, true, (⟨2, 5, 7, 0⟩ : S33), (⟨false, 0, 0, ([] : List (S70))⟩ : S36)⟩ : S67), (⟨0, true, (⟨1, 5, 0, 0⟩ : S33), (⟨true, 0, 7, ([] : List (S70))⟩ : S36)⟩ : S67)] : List (S67)))) = some r := h
 clear h
 obtain ⟨y122, hy122⟩ : ∃ y_ : List (S67), y_ = (([(⟨0, false, (⟨1, 5, 0, 0⟩ : S33), (⟨false, 0, 0, ([] : List (S70))⟩ : S36)⟩ : S67), (⟨1, false, (⟨2, 5, 7, 0⟩ : S33), (⟨false, 0, 0, ([] : List (S70))⟩ : S36)⟩ : S67), (⟨1, true, (⟨2, 5, 7, 0⟩ : S33), (⟨false, 0, 0, ([] : List (S70))⟩ : S36)⟩ : S67), (⟨0, true, (⟨1, 5, 0, 0⟩ : S33), (⟨true, 0, 7, ([] : List (S70))⟩ : S36)⟩ : S67)] : List (S67))) := ⟨_, rfl⟩
 replace H : (some y122) = some r := by first | (rw [hy122]; with_reducible exact H) | (have H2_ := (Option.bind_some _ _).symm.trans H; rw [hy122]; with_reducible exact H2_) | (have H2_ := (Option.bind_some _ _).symm.trans H; with_reducible exact H2_) | with_reducible exact H | (rw [hy122]; exact H) | exact H
 have Ny122 := asd hy122
 clear hy122
 obtain rfl := Option.some.inj H
 go_enter Try.func45, Try.ntmps45
 go_wp2_with (first | ((with_reducible refine gate_dst (N := 1) rfl ?_); refine box_event ?hg (N := 1) ?hd (cs := #[.int .i64 0, .int .i64 0, .int .i64 0, .int .i64 0]) (t := 33) ?hr ?_; (case hd => rfl); (case hg => rfl); (case hr => first | (go_simp; done) | (go_simp; rfl)); intro gb120 hg w1 hbox hb; have n0_ := asd (below_step (skB HB.out) hb); have n1_ := asd (hbox); have n2_ := asd ((by rw [hg]; exact (below_size (skB HB.out)) : w.heap.size ≤ gb120)); have n3_ := asd ((by rw [hg]; exact (below_size (skB HB.out)) : w.heap.size ≤ gb120)); clear HB; have HB := n0_; have BK120 := n1_; have GW120 := n2_; have GE120 := n3_; clear n0_ n1_ n2_ n3_; clear hb hbox hg) | ((with_reducible refine gate_dst (N := 2) rfl ?_); refine box_event ?hg (N := 2) ?hd (cs := #[.int .i64 0, .int .i64 0, .int .i64 0, .int .i64 0]) (t := 33) ?hr ?_; (case hd => rfl); (case hg => rfl); (case hr => first | (go_simp; done) | (go_simp; rfl)); intro gb121 hg w2 hbox hb; have n0_ := asd (blk_below (g := gb120) (o := .cells #[.int .i64 0, .int .i64 0, .int .i64 0, .int .i64 0] 33 (0, 0)) (skK BK120.out) hb); have n1_ := asd (below_step (skG HB.out GE120.out GE120.out) hb); have n2_ := asd (hbox); have n3_ := asd ((by rw [hg]; exact (below_size (skG HB.out GE120.out GE120.out)) : w.heap.size ≤ gb121)); have n4_ := asd ((by rw [hg]; exact (below_size (skG HB.out GE120.out GE120.out)) : w.heap.size ≤ gb121)); have n5_ := asd ((by rw [hg]; exact Nat.ne_of_lt (blk_lt (g := gb120) (o := .cells #[.int .i64 0, .int .i64 0, .int .i64 0, .int .i64 0] 33 (0, 0)) (skK BK120.out)) : gb120 ≠ gb121)); have n6_ := asd ((by rw [hg]; exact Nat.ne_of_gt (blk_lt (g := gb120) (o := .cells #[.int .i64 0, .int .i64 0, .int .i64 0, .int .i64 0] 33 (0, 0)) (skK BK120.out)) : gb121 ≠ gb120)); clear BK120; clear HB; have BK120 := n0_; have HB := n1_; have BK121 := n2_; have GW121 := n3_; have GE121 := n4_; have NB120_121 := n5_; have NB121_120 := n6_; clear n0_ n1_ n2_ n3_ n4_ n5_ n6_; clear hb hbox hg; have hnb3 := NB120_121.out; have hnc3 := NB121_120.out; obtain ⟨hcz4_0, hcz4_1, hcz4_2, hcz4_3, hfz4_0, hfz4_1, hfz4_2, hfz4_3⟩ := bk4 BK120.out; obtain ⟨hcz5_0, hcz5_1, hcz5_2, hcz5_3, hfz5_0, hfz5_1, hfz5_2, hfz5_3⟩ := bk4 BK121.out) | ((with_reducible refine gate_dst (N := 14) rfl ?_); refine Kd.S_lit k67 _ 67 ?hg (N := 14) ?hd (xs := ([(⟨0, false, (⟨1, 5, 0, 0⟩ : S33), (⟨false, 0, 0, ([] : List (S70))⟩ : S36)⟩ : S67), (⟨1, false, (⟨2, 5, 7, 0⟩ : S33), (⟨false, 0, 0, ([] : List (S70))⟩ : S36)⟩ : S67), (⟨1, true, (⟨2, 5, 7, 0⟩ : S33), (⟨false, 0, 0, ([] : List (S70))⟩ : S36)⟩ : S67), (⟨0, true, (⟨1, 5, 0, 0⟩ : S33), (⟨true, 0, 7, ([] : List (S70))⟩ : S36)⟩ : S67)] : List (S67))) (inner := [.int .i64 0, .bool false, .int .i64 1, .int .i64 5, .int .i64 0, .int .i64 0, .bool false, .int .i64 0, .int .i64 0, .slice none 0 0, .int .i64 1, .bool false, .int .i64 2, .int .i64 5, .int .i64 7, .int .i64 0, .bool false, .int .i64 0, .int .i64 0, .slice none 0 0, .int .i64 1, .bool true, .int .i64 2, .int .i64 5, .int .i64 7, .int .i64 0, .bool false, .int .i64 0, .int .i64 0, .slice none 0 0, .int .i64 0, .bool true, .int .i64 1, .int .i64 5, .int .i64 0, .int .i64 0, .bool true, .int .i64 0, .int .i64 7, .slice none 0 0]) (ok := fun _ => True) (okp := fun _ => True) ?hr ?hp (fun _ hk => hk) trivial (Below.refl _ _) (Nat.le_refl _) (by simp) ?_; (case hd => rfl); (case hg => rfl); (case hr => first | (go_simp; done) | (go_simp; rfl)); (case hp => exact (Reps.c10 (show Kd.M k67 _ _ _ (⟨0, false, (⟨1, 5, 0, 0⟩ : S33), (⟨false, 0, 0, ([] : List (S70))⟩ : S36)⟩ : S67) [.int .i64 0, .bool false, .int .i64 1, .int .i64 5, .int .i64 0, .int .i64 0, .bool false, .int .i64 0, .int .i64 0, .slice none 0 0] from (k67_mkM _ _ _ (⟨0, false, (⟨1, 5, 0, 0⟩ : S33), (⟨false, 0, 0, ([] : List (S70))⟩ : S36)⟩ : S67) (Kd.R_nil _ _ _ _ _))) (Reps.c10 (show Kd.M k67 _ _ _ (⟨1, false, (⟨2, 5, 7, 0⟩ : S33), (⟨false, 0, 0, ([] : List (S70))⟩ : S36)⟩ : S67) [.int .i64 1, .bool false, .int .i64 2, .int .i64 5, .int .i64 7, .int .i64 0, .bool false, .int .i64 0, .int .i64 0, .slice none 0 0] from (k67_mkM _ _ _ (⟨1, false, (⟨2, 5, 7, 0⟩ : S33), (⟨false, 0, 0, ([] : List (S70))⟩ : S36)⟩ : S67) (Kd.R_nil _ _ _ _ _))) (Reps.c10 (show Kd.M k67 _ _ _ (⟨1, true, (⟨2, 5, 7, 0⟩ : S33), (⟨false, 0, 0, ([] : List (S70))⟩ : S36)⟩ : S67) [.int .i64 1, .bool true, .int .i64 2, .int .i64 5, .int .i64 7, .int .i64 0, .bool false, .int .i64 0, .int .i64 0, .slice none 0 0] from (k67_mkM _ _ _ (⟨1, true, (⟨2, 5, 7, 0⟩ : S33), (⟨false, 0, 0, ([] : List (S70))⟩ : S36)⟩ : S67) (Kd.R_nil _ _ _ _ _))) (Reps.c10 (show Kd.M k67 _ _ _ (⟨0, true, (⟨1, 5, 0, 0⟩ : S33), (⟨true, 0, 7, ([] : List (S70))⟩ : S36)⟩ : S67) [.int .i64 0, .bool true, .int .i64 1, .int .i64 5, .int .i64 0, .int .i64 0, .bool true, .int .i64 0, .int .i64 7, .slice none 0 0] from (k67_mkM _ _ _ (⟨0, true, (⟨1, 5, 0, 0⟩ : S33), (⟨true, 0, 7, ([] : List (S70))⟩ : S36)⟩ : S67) (Kd.R_nil _ _ _ _ _))) (Reps.none _ _)))))); intro v123 w6 ho7 hb hg_ hnew_; clear hg_ hnew_; (first | rw [← Ny122.out] at ho7 | (simp only [Int.reduceToNat] at ho7; rw [← Ny122.out] at ho7)); have n0_ := asd (Kd.S_lower ho7 (below_size (skG HB.out GE120.out GE121.out))); have n1_ := asd (blk_below (g := gb120) (o := .cells #[.int .i64 1, .int .i64 5, .int .i64 0, .int .i64 0] 33 (0, 0)) (by refine skk ?_; refine blk_far ?_ NB120_121.out _; refine skk ?_; refine blk_far ?_ NB120_121.out _; refine skk ?_; refine blk_far ?_ NB120_121.out _; refine skk ?_; refine blk_far ?_ NB120_121.out _; refine skk ?_; refine blk_put (cs := #[.int .i64 1, .int .i64 5, .int .i64 0, .int .i64 0]) ?_ 3 _ rfl; refine skk ?_; refine blk_put (cs := #[.int .i64 1, .int .i64 5, .int .i64 0, .int .i64 0]) ?_ 2 _ rfl; refine skk ?_; refine blk_put (cs := #[.int .i64 1, .int .i64 0, .int .i64 0, .int .i64 0]) ?_ 1 _ rfl; refine skk ?_; refine blk_put (cs := #[.int .i64 0, .int .i64 0, .int .i64 0, .int .i64 0]) ?_ 0 _ rfl; refine skk ?_; exact BK120.out) hb); have n2_ := asd (blk_below (g := gb121) (o := .cells #[.int .i64 2, .int .i64 5, .int .i64 7, .int .i64 0] 33 (0, 0)) (by refine skk ?_; refine blk_put (cs := #[.int .i64 2, .int .i64 5, .int .i64 7, .int .i64 0]) ?_ 3 _ rfl; refine skk ?_; refine blk_put (cs := #[.int .i64 2, .int .i64 5, .int .i64 0, .int .i64 0]) ?_ 2 _ rfl; refine skk ?_; refine blk_put (cs := #[.int .i64 2, .int .i64 0, .int .i64 0, .int .i64 0]) ?_ 1 _ rfl; refine skk ?_; refine blk_put (cs := #[.int .i64 0, .int .i64 0, .int .i64 0, .int .i64 0]) ?_ 0 _ rfl; refine skk ?_; refine blk_far ?_ NB121_120.out _; refine skk ?_; refine blk_far ?_ NB121_120.out _; refine skk ?_; refine blk_far ?_ NB121_120.out _; refine skk ?_; refine blk_far ?_ NB121_120.out _; refine skk ?_; exact BK121.out) hb); have n3_ := asd (below_step (skG HB.out GE120.out GE121.out) hb); clear BK120; clear BK121; clear HB; have HO124 := n0_; have BK120 := n1_; have BK121 := n2_; have HB := n3_; clear n0_ n1_ n2_ n3_; clear hb ho7))
 go_ret
 exact ⟨_, re, by (with_reducible repeat (first | apply Kd.S_alloc | apply Kd.S_drewN | apply Kd.S_drew)); exact HO124.out, skG HB.out GE120.out GE121.out⟩
end Go.Proofs.Ytagdkmcgepidoaa.P
/- F34 -/
namespace Go.Proofs.Ytagdkmcgepidoaa.P
open Go.RowKit Go.Proofs.YtagdkmcgepidoaaW.PrintWords Go.Proofs.YtagdkmcgepidoaaW.PrintLast Go.Proofs.YtagdkmcgepidoaaW.PrintMore
attribute [local go_sem] max2_int min2_int max_two min_two max_three min_three max_four min_four   -- for this text's walks alone
set_option linter.unusedVariables false
set_option linter.unusedSimpArgs false
attribute [local go_sem high] eqA33
def larchref05_sameEvent.f (k : Nat) (a0_0 : Int) (a0_1 : Bool) (a0_2 : Int) (a0_3 : Int) (a0_4 : Int) (a0_5 : Int) (a0_6 : Bool) (a0_7 : Int) (a0_8 : Int) (l0_9 : List (S70)) (a1_0 : Int) (a1_1 : Bool) (a1_2 : Int) (a1_3 : Int) (a1_4 : Int) (a1_5 : Int) (a1_6 : Bool) (a1_7 : Int) (a1_8 : Int) (l1_9 : List (S70)) : Option (Bool) := if a0_0 = a1_0 then (if (a0_1 == a1_1) = true then (if (a0_2 == a1_2 && (a0_3 == a1_3 && (a0_4 == a1_4 && (a0_5 == a1_5)))) = true then ((larchref05_SameRet.f k a0_6 a0_7 a0_8 l0_9 a1_6 a1_7 a1_8 l1_9).bind fun t269 => (some t269)) else (some false)) else (some false)) else (some false)
set_option maxHeartbeats 8000000 in
set_option maxRecDepth 100000 in
theorem larchref05_sameEvent.calls (k : Nat) (a0_0 : Int) (a0_1 : Bool) (a0_2 : Int) (a0_3 : Int) (a0_4 : Int) (a0_5 : Int) (a0_6 : Bool) (a0_7 : Int) (a0_8 : Int) (A0_9 : Option Addr) (c0_9 : Nat) (l0_9 : List (S70)) (a1_0 : Int) (a1_1 : Bool) (a1_2 : Int) (a1_3 : Int) (a1_4 : Int) (a1_5 : Int) (a1_6 : Bool) (a1_7 : Int) (a1_8 : Int) (A1_9 : Option Addr) (c1_9 : Nat) (l1_9 : List (S70)) (r : Bool) (w : World) (hr0_9 : Kd.C k70 w A0_9 l0_9.length l0_9) (hc0_9 : l0_9.length ≤ c0_9) (hr1_9 : Kd.C k70 w A1_9 l1_9.length l1_9) (hc1_9 : l1_9.length ≤ c1_9) (h : larchref05_sameEvent.f k a0_0 a0_1 a0_2 a0_3 a0_4 a0_5 a0_6 a0_7 a0_8 l0_9 a1_0 a1_1 a1_2 a1_3 a1_4 a1_5 a1_6 a1_7 a1_8 l1_9 = some r) :
  Calls Try.prog 54 #[.agg #[.int .i64 a0_0, .bool a0_1, .int .i64 a0_2, .int .i64 a0_3, .int .i64 a0_4, .int .i64 a0_5, .bool a0_6, .int .i64 a0_7, .int .i64 a0_8, .slice A0_9 l0_9.length c0_9], .agg #[.int .i64 a1_0, .bool a1_1, .int .i64 a1_2, .int .i64 a1_3, .int .i64 a1_4, .int .i64 a1_5, .bool a1_6, .int .i64 a1_7, .int .i64 a1_8, .slice A1_9 l1_9.length c1_9]] w fun e w' => e = .returned (.bool r) ∧ Below w.heap.size w w' := by
 have hu67 := Try.underlying67
 have hu33 := Try.underlying33
 have hu36 := Try.underlying36
 have HR0_9 := asd hr0_9
 have HC0_9 := asd hc0_9
 clear hr0_9 hc0_9
 have HR1_9 := asd hr1_9
 have HC1_9 := asd hc1_9
 clear hr1_9 hc1_9
 have HB := asd (Below.refl w.heap.size w)
 have H : (if a0_0 = a1_0 then (if (a0_1 == a1_1) = true then (if (a0_2 == a1_2 && (a0_3 == a1_3 && (a0_4 == a1_4 && (a0_5 == a1_5)))) = true then ((larchref05_SameRet.f k a0_6 a0_7 a0_8 l0_9 a1_6 a1_7 a1_8 l1_9).bind fun t269 => (some t269)) else (some false)) else (some false)) else (some false)) = some r := h
 clear h
 by_cases c3 : a0_0 = a1_0
 ·
  rw [if_pos c3] at H
  have c3b0 : (a0_0 == a1_0) = true := beq_iff_eq.mpr c3
  have c3b1 : (a0_0 != a1_0) = false := bne_eq_false_iff_eq.mpr c3
  clear c3
  by_cases c4 : (a0_1 == a1_1) = true
  ·
   rw [if_pos c4] at H
   have c4b0 : (a0_1 == a1_1) = true := c4
   (try (have c4b1 : decide (a0_1 = a1_1) = true := by simpa using c4))
   (try (have c4b2 : (a0_1 == a1_1) = true := by simpa using c4))
   clear c4
   by_cases c5 : (a0_2 == a1_2 && (a0_3 == a1_3 && (a0_4 == a1_4 && (a0_5 == a1_5)))) = true
   ·
    rw [if_pos c5] at H
    have c5b0 : (a0_2 == a1_2 && (a0_3 == a1_3 && (a0_4 == a1_4 && (a0_5 == a1_5)))) = true := c5
    (try (have c5b1 : decide (a0_2 = a1_2 && (a0_3 == a1_3 && (a0_4 == a1_4 && (a0_5 == a1_5)))) = true := by simpa using c5))
    (try (have c5b2 : (a0_2 == a1_2 && (a0_3 == a1_3 && (a0_4 == a1_4 && (a0_5 == a1_5)))) = true := by simpa using c5))
    clear c5
    replace H := Option.bind_eq_some_iff.mp H
    obtain ⟨t269, A60, H⟩ := H
    replace H : (some t269) = some r := H
    have A6 := asd A60
    clear A60
    obtain rfl := Option.some.inj H
    go_enter Try.func54, Try.ntmps54
    go_wp2_with (first | ((with_reducible refine gate_dst (N := 2) rfl ?_); refine box_event ?hg (N := 2) ?hd (cs := #[.int .i64 a0_0, .bool a0_1, .int .i64 a0_2, .int .i64 a0_3, .int .i64 a0_4, .int .i64 a0_5, .bool a0_6, .int .i64 a0_7, .int .i64 a0_8, .slice A0_9 l0_9.length c0_9]) (t := 67) ?hr ?_; (case hd => rfl); (case hg => rfl); (case hr => first | (go_simp; done) | (go_simp; rfl)); intro gb267 hg w7 hbox hb; have n0_ := asd (below_step (skB HB.out) hb); have n1_ := asd (hbox); have n2_ := asd ((by rw [hg]; exact (below_size (skB HB.out)) : w.heap.size ≤ gb267)); have n3_ := asd ((by rw [hg]; exact (below_size (skB HB.out)) : w.heap.size ≤ gb267)); clear HB; have HB := n0_; have BK267 := n1_; have GW267 := n2_; have GE267 := n3_; clear n0_ n1_ n2_ n3_; clear hb hbox hg) | ((with_reducible refine gate_dst (N := 3) rfl ?_); refine box_event ?hg (N := 3) ?hd (cs := #[.int .i64 a1_0, .bool a1_1, .int .i64 a1_2, .int .i64 a1_3, .int .i64 a1_4, .int .i64 a1_5, .bool a1_6, .int .i64 a1_7, .int .i64 a1_8, .slice A1_9 l1_9.length c1_9]) (t := 67) ?hr ?_; (case hd => rfl); (case hg => rfl); (case hr => first | (go_simp; done) | (go_simp; rfl)); intro gb268 hg w8 hbox hb; have n0_ := asd (blk_below (g := gb267) (o := .cells #[.int .i64 a0_0, .bool a0_1, .int .i64 a0_2, .int .i64 a0_3, .int .i64 a0_4, .int .i64 a0_5, .bool a0_6, .int .i64 a0_7, .int .i64 a0_8, .slice A0_9 l0_9.length c0_9] 67 (0, 0)) (skK BK267.out) hb); have n1_ := asd (below_step (skG HB.out GE267.out GE267.out) hb); have n2_ := asd (hbox); have n3_ := asd ((by rw [hg]; exact (below_size (skG HB.out GE267.out GE267.out)) : w.heap.size ≤ gb268)); have n4_ := asd ((by rw [hg]; exact (below_size (skG HB.out GE267.out GE267.out)) : w.heap.size ≤ gb268)); have n5_ := asd ((by rw [hg]; exact Nat.ne_of_lt (blk_lt (g := gb267) (o := .cells #[.int .i64 a0_0, .bool a0_1, .int .i64 a0_2, .int .i64 a0_3, .int .i64 a0_4, .int .i64 a0_5, .bool a0_6, .int .i64 a0_7, .int .i64 a0_8, .slice A0_9 l0_9.length c0_9] 67 (0, 0)) (skK BK267.out)) : gb267 ≠ gb268)); have n6_ := asd ((by rw [hg]; exact Nat.ne_of_gt (blk_lt (g := gb267) (o := .cells #[.int .i64 a0_0, .bool a0_1, .int .i64 a0_2, .int .i64 a0_3, .int .i64 a0_4, .int .i64 a0_5, .bool a0_6, .int .i64 a0_7, .int .i64 a0_8, .slice A0_9 l0_9.length c0_9] 67 (0, 0)) (skK BK267.out)) : gb268 ≠ gb267)); clear BK267; clear HB; have BK267 := n0_; have HB := n1_; have BK268 := n2_; have GW268 := n3_; have GE268 := n4_; have NB267_268 := n5_; have NB268_267 := n6_; clear n0_ n1_ n2_ n3_ n4_ n5_ n6_; clear hb hbox hg; have hnb9 := NB267_268.out; have hnc9 := NB268_267.out; have hcz10_0 : w8.cell? ⟨gb267, 0, none⟩ = some (.int .i64 a0_0) := (blk_cell BK267.out 0).trans rfl; have hcz10_1 : w8.cell? ⟨gb267, 1, none⟩ = some (.bool a0_1) := (blk_cell BK267.out 1).trans rfl; have hcz10_2 : w8.cell? ⟨gb267, 2, none⟩ = some (.int .i64 a0_2) := (blk_cell BK267.out 2).trans rfl; have hcz10_3 : w8.cell? ⟨gb267, 3, none⟩ = some (.int .i64 a0_3) := (blk_cell BK267.out 3).trans rfl; have hcz10_4 : w8.cell? ⟨gb267, 4, none⟩ = some (.int .i64 a0_4) := (blk_cell BK267.out 4).trans rfl; have hcz10_5 : w8.cell? ⟨gb267, 5, none⟩ = some (.int .i64 a0_5) := (blk_cell BK267.out 5).trans rfl; have hcz10_6 : w8.cell? ⟨gb267, 6, none⟩ = some (.bool a0_6) := (blk_cell BK267.out 6).trans rfl; have hcz10_7 : w8.cell? ⟨gb267, 7, none⟩ = some (.int .i64 a0_7) := (blk_cell BK267.out 7).trans rfl; have hcz10_8 : w8.cell? ⟨gb267, 8, none⟩ = some (.int .i64 a0_8) := (blk_cell BK267.out 8).trans rfl; have hcz10_9 : w8.cell? ⟨gb267, 9, none⟩ = some (.slice A0_9 l0_9.length c0_9) := (blk_cell BK267.out 9).trans rfl; have hfz10_0 := blk_frozen BK267.out 0; have hfz10_1 := blk_frozen BK267.out 1; have hfz10_2 := blk_frozen BK267.out 2; have hfz10_3 := blk_frozen BK267.out 3; have hfz10_4 := blk_frozen BK267.out 4; have hfz10_5 := blk_frozen BK267.out 5; have hfz10_6 := blk_frozen BK267.out 6; have hfz10_7 := blk_frozen BK267.out 7; have hfz10_8 := blk_frozen BK267.out 8; have hfz10_9 := blk_frozen BK267.out 9; have hcz11_0 : w8.cell? ⟨gb268, 0, none⟩ = some (.int .i64 a1_0) := (blk_cell BK268.out 0).trans rfl; have hcz11_1 : w8.cell? ⟨gb268, 1, none⟩ = some (.bool a1_1) := (blk_cell BK268.out 1).trans rfl; have hcz11_2 : w8.cell? ⟨gb268, 2, none⟩ = some (.int .i64 a1_2) := (blk_cell BK268.out 2).trans rfl; have hcz11_3 : w8.cell? ⟨gb268, 3, none⟩ = some (.int .i64 a1_3) := (blk_cell BK268.out 3).trans rfl; have hcz11_4 : w8.cell? ⟨gb268, 4, none⟩ = some (.int .i64 a1_4) := (blk_cell BK268.out 4).trans rfl; have hcz11_5 : w8.cell? ⟨gb268, 5, none⟩ = some (.int .i64 a1_5) := (blk_cell BK268.out 5).trans rfl; have hcz11_6 : w8.cell? ⟨gb268, 6, none⟩ = some (.bool a1_6) := (blk_cell BK268.out 6).trans rfl; have hcz11_7 : w8.cell? ⟨gb268, 7, none⟩ = some (.int .i64 a1_7) := (blk_cell BK268.out 7).trans rfl; have hcz11_8 : w8.cell? ⟨gb268, 8, none⟩ = some (.int .i64 a1_8) := (blk_cell BK268.out 8).trans rfl; have hcz11_9 : w8.cell? ⟨gb268, 9, none⟩ = some (.slice A1_9 l1_9.length c1_9) := (blk_cell BK268.out 9).trans rfl; have hfz11_0 := blk_frozen BK268.out 0; have hfz11_1 := blk_frozen BK268.out 1; have hfz11_2 := blk_frozen BK268.out 2; have hfz11_3 := blk_frozen BK268.out 3; have hfz11_4 := blk_frozen BK268.out 4; have hfz11_5 := blk_frozen BK268.out 5; have hfz11_6 := blk_frozen BK268.out 6; have hfz11_7 := blk_frozen BK268.out 7; have hfz11_8 := blk_frozen BK268.out 8; have hfz11_9 := blk_frozen BK268.out 9) | (go_at_call 63; (with_reducible refine (larchref05_SameRet.calls k a0_6 a0_7 a0_8 _ _ l0_9 a1_6 a1_7 a1_8 _ _ l1_9 t269 _ ?side1 ?side2 ?side3 ?side4 A6.out).mono ?_); (case side1 => exact skC (Kd.C_below HR0_9.out HB.out)); (case side2 => exact HC0_9.out); (case side3 => exact skC (Kd.C_below HR1_9.out HB.out)); (case side4 => exact HC1_9.out); rintro e w12 ⟨rfl, hb⟩; have n0_ := asd (blk_below (g := gb267) (o := .cells #[.int .i64 a0_0, .bool a0_1, .int .i64 a0_2, .int .i64 a0_3, .int .i64 a0_4, .int .i64 a0_5, .bool a0_6, .int .i64 a0_7, .int .i64 a0_8, .slice A0_9 l0_9.length c0_9] 67 (0, 0)) (skK BK267.out) hb); have n1_ := asd (blk_below (g := gb268) (o := .cells #[.int .i64 a1_0, .bool a1_1, .int .i64 a1_2, .int .i64 a1_3, .int .i64 a1_4, .int .i64 a1_5, .bool a1_6, .int .i64 a1_7, .int .i64 a1_8, .slice A1_9 l1_9.length c1_9] 67 (0, 0)) (skK BK268.out) hb); have n2_ := asd (below_step (skG HB.out GE267.out GE268.out) hb); clear BK267; clear BK268; clear HB; have BK267 := n0_; have BK268 := n1_; have HB := n2_; clear n0_ n1_ n2_; (try clear hb); (try clear hb2); (try clear hk); (try clear hi)))
    go_ret
    exact ⟨re, skG HB.out GE267.out GE268.out⟩
   ·
    rw [if_neg c5] at H
    have c5b0 : (a0_2 == a1_2 && (a0_3 == a1_3 && (a0_4 == a1_4 && (a0_5 == a1_5)))) = false := by simpa using c5
    (try (have c5b1 : decide (a0_2 = a1_2 && (a0_3 == a1_3 && (a0_4 == a1_4 && (a0_5 == a1_5)))) = false := by simpa using c5))
    (try (have c5b2 : (a0_2 == a1_2 && (a0_3 == a1_3 && (a0_4 == a1_4 && (a0_5 == a1_5)))) = false := by simpa using c5))
    (try (have c5b3 : ¬ (a0_2 = a1_2 && (a0_3 == a1_3 && (a0_4 == a1_4 && (a0_5 == a1_5)))) := by simpa using c5))
    clear c5
    obtain rfl := Option.some.inj H
    go_enter Try.func54, Try.ntmps54
    go_wp2_with (first | ((with_reducible refine gate_dst (N := 2) rfl ?_); refine box_event ?hg (N := 2) ?hd (cs := #[.int .i64 a0_0, .bool a0_1, .int .i64 a0_2, .int .i64 a0_3, .int .i64 a0_4, .int .i64 a0_5, .bool a0_6, .int .i64 a0_7, .int .i64 a0_8, .slice A0_9 l0_9.length c0_9]) (t := 67) ?hr ?_; (case hd => rfl); (case hg => rfl); (case hr => first | (go_simp; done) | (go_simp; rfl)); intro gb267 hg w13 hbox hb; have n0_ := asd (below_step (skB HB.out) hb); have n1_ := asd (hbox); have n2_ := asd ((by rw [hg]; exact (below_size (skB HB.out)) : w.heap.size ≤ gb267)); have n3_ := asd ((by rw [hg]; exact (below_size (skB HB.out)) : w.heap.size ≤ gb267)); clear HB; have HB := n0_; have BK267 := n1_; have GW267 := n2_; have GE267 := n3_; clear n0_ n1_ n2_ n3_; clear hb hbox hg) | ((with_reducible refine gate_dst (N := 3) rfl ?_); refine box_event ?hg (N := 3) ?hd (cs := #[.int .i64 a1_0, .bool a1_1, .int .i64 a1_2, .int .i64 a1_3, .int .i64 a1_4, .int .i64 a1_5, .bool a1_6, .int .i64 a1_7, .int .i64 a1_8, .slice A1_9 l1_9.length c1_9]) (t := 67) ?hr ?_; (case hd => rfl); (case hg => rfl); (case hr => first | (go_simp; done) | (go_simp; rfl)); intro gb268 hg w14 hbox hb; have n0_ := asd (blk_below (g := gb267) (o := .cells #[.int .i64 a0_0, .bool a0_1, .int .i64 a0_2, .int .i64 a0_3, .int .i64 a0_4, .int .i64 a0_5, .bool a0_6, .int .i64 a0_7, .int .i64 a0_8, .slice A0_9 l0_9.length c0_9] 67 (0, 0)) (skK BK267.out) hb); have n1_ := asd (below_step (skG HB.out GE267.out GE267.out) hb); have n2_ := asd (hbox); have n3_ := asd ((by rw [hg]; exact (below_size (skG HB.out GE267.out GE267.out)) : w.heap.size ≤ gb268)); have n4_ := asd ((by rw [hg]; exact (below_size (skG HB.out GE267.out GE267.out)) : w.heap.size ≤ gb268)); have n5_ := asd ((by rw [hg]; exact Nat.ne_of_lt (blk_lt (g := gb267) (o := .cells #[.int .i64 a0_0, .bool a0_1, .int .i64 a0_2, .int .i64 a0_3, .int .i64 a0_4, .int .i64 a0_5, .bool a0_6, .int .i64 a0_7, .int .i64 a0_8, .slice A0_9 l0_9.length c0_9] 67 (0, 0)) (skK BK267.out)) : gb267 ≠ gb268)); have n6_ := asd ((by rw [hg]; exact Nat.ne_of_gt (blk_lt (g := gb267) (o := .cells #[.int .i64 a0_0, .bool a0_1, .int .i64 a0_2, .int .i64 a0_3, .int .i64 a0_4, .int .i64 a0_5, .bool a0_6, .int .i64 a0_7, .int .i64 a0_8, .slice A0_9 l0_9.length c0_9] 67 (0, 0)) (skK BK267.out)) : gb268 ≠ gb267)); clear BK267; clear HB; have BK267 := n0_; have HB := n1_; have BK268 := n2_; have GW268 := n3_; have GE268 := n4_; have NB267_268 := n5_; have NB268_267 := n6_; clear n0_ n1_ n2_ n3_ n4_ n5_ n6_; clear hb hbox hg; have hnb15 := NB267_268.out; have hnc15 := NB268_267.out; have hcz16_0 : w14.cell? ⟨gb267, 0, none⟩ = some (.int .i64 a0_0) := (blk_cell BK267.out 0).trans rfl; have hcz16_1 : w14.cell? ⟨gb267, 1, none⟩ = some (.bool a0_1) := (blk_cell BK267.out 1).trans rfl; have hcz16_2 : w14.cell? ⟨gb267, 2, none⟩ = some (.int .i64 a0_2) := (blk_cell BK267.out 2).trans rfl; have hcz16_3 : w14.cell? ⟨gb267, 3, none⟩ = some (.int .i64 a0_3) := (blk_cell BK267.out 3).trans rfl; have hcz16_4 : w14.cell? ⟨gb267, 4, none⟩ = some (.int .i64 a0_4) := (blk_cell BK267.out 4).trans rfl; have hcz16_5 : w14.cell? ⟨gb267, 5, none⟩ = some (.int .i64 a0_5) := (blk_cell BK267.out 5).trans rfl; have hcz16_6 : w14.cell? ⟨gb267, 6, none⟩ = some (.bool a0_6) := (blk_cell BK267.out 6).trans rfl; have hcz16_7 : w14.cell? ⟨gb267, 7, none⟩ = some (.int .i64 a0_7) := (blk_cell BK267.out 7).trans rfl; have hcz16_8 : w14.cell? ⟨gb267, 8, none⟩ = some (.int .i64 a0_8) := (blk_cell BK267.out 8).trans rfl; have hcz16_9 : w14.cell? ⟨gb267, 9, none⟩ = some (.slice A0_9 l0_9.length c0_9) := (blk_cell BK267.out 9).trans rfl; have hfz16_0 := blk_frozen BK267.out 0; have hfz16_1 := blk_frozen BK267.out 1; have hfz16_2 := blk_frozen BK267.out 2; have hfz16_3 := blk_frozen BK267.out 3; have hfz16_4 := blk_frozen BK267.out 4; have hfz16_5 := blk_frozen BK267.out 5; have hfz16_6 := blk_frozen BK267.out 6; have hfz16_7 := blk_frozen BK267.out 7; have hfz16_8 := blk_frozen BK267.out 8; have hfz16_9 := blk_frozen BK267.out 9; have hcz17_0 : w14.cell? ⟨gb268, 0, none⟩ = some (.int .i64 a1_0) := (blk_cell BK268.out 0).trans rfl; have hcz17_1 : w14.cell? ⟨gb268, 1, none⟩ = some (.bool a1_1) := (blk_cell BK268.out 1).trans rfl; have hcz17_2 : w14.cell? ⟨gb268, 2, none⟩ = some (.int .i64 a1_2) := (blk_cell BK268.out 2).trans rfl; have hcz17_3 : w14.cell? ⟨gb268, 3, none⟩ = some (.int .i64 a1_3) := (blk_cell BK268.out 3).trans rfl; have hcz17_4 : w14.cell? ⟨gb268, 4, none⟩ = some (.int .i64 a1_4) := (blk_cell BK268.out 4).trans rfl; have hcz17_5 : w14.cell? ⟨gb268, 5, none⟩ = some (.int .i64 a1_5) := (blk_cell BK268.out 5).trans rfl; have hcz17_6 : w14.cell? ⟨gb268, 6, none⟩ = some (.bool a1_6) := (blk_cell BK268.out 6).trans rfl; have hcz17_7 : w14.cell? ⟨gb268, 7, none⟩ = some (.int .i64 a1_7) := (blk_cell BK268.out 7).trans rfl; have hcz17_8 : w14.cell? ⟨gb268, 8, none⟩ = some (.int .i64 a1_8) := (blk_cell BK268.out 8).trans rfl; have hcz17_9 : w14.cell? ⟨gb268, 9, none⟩ = some (.slice A1_9 l1_9.length c1_9) := (blk_cell BK268.out 9).trans rfl; have hfz17_0 := blk_frozen BK268.out 0; have hfz17_1 := blk_frozen BK268.out 1; have hfz17_2 := blk_frozen BK268.out 2; have hfz17_3 := blk_frozen BK268.out 3; have hfz17_4 := blk_frozen BK268.out 4; have hfz17_5 := blk_frozen BK268.out 5; have hfz17_6 := blk_frozen BK268.out 6; have hfz17_7 := blk_frozen BK268.out 7; have hfz17_8 := blk_frozen BK268.out 8; have hfz17_9 := blk_frozen BK268.out 9))
    go_ret
    exact ⟨re, skG HB.out GE267.out GE268.out⟩
  ·
   rw [if_neg c4] at H
   have c4b0 : (a0_1 == a1_1) = false := by simpa using c4
   (try (have c4b1 : decide (a0_1 = a1_1) = false := by simpa using c4))
   (try (have c4b2 : (a0_1 == a1_1) = false := by simpa using c4))
   (try (have c4b3 : ¬ (a0_1 = a1_1) := by simpa using c4))
   clear c4
   obtain rfl := Option.some.inj H
   go_enter Try.func54, Try.ntmps54
   go_wp2_with (first | ((with_reducible refine gate_dst (N := 2) rfl ?_); refine box_event ?hg (N := 2) ?hd (cs := #[.int .i64 a0_0, .bool a0_1, .int .i64 a0_2, .int .i64 a0_3, .int .i64 a0_4, .int .i64 a0_5, .bool a0_6, .int .i64 a0_7, .int .i64 a0_8, .slice A0_9 l0_9.length c0_9]) (t := 67) ?hr ?_; (case hd => rfl); (case hg => rfl); (case hr => first | (go_simp; done) | (go_simp; rfl)); intro gb267 hg w18 hbox hb; have n0_ := asd (below_step (skB HB.out) hb); have n1_ := asd (hbox); have n2_ := asd ((by rw [hg]; exact (below_size (skB HB.out)) : w.heap.size ≤ gb267)); have n3_ := asd ((by rw [hg]; exact (below_size (skB HB.out)) : w.heap.size ≤ gb267)); clear HB; have HB := n0_; have BK267 := n1_; have GW267 := n2_; have GE267 := n3_; clear n0_ n1_ n2_ n3_; clear hb hbox hg) | ((with_reducible refine gate_dst (N := 3) rfl ?_); refine box_event ?hg (N := 3) ?hd (cs := #[.int .i64 a1_0, .bool a1_1, .int .i64 a1_2, .int .i64 a1_3, .int .i64 a1_4, .int .i64 a1_5, .bool a1_6, .int .i64 a1_7, .int .i64 a1_8, .slice A1_9 l1_9.length c1_9]) (t := 67) ?hr ?_; (case hd => rfl); (case hg => rfl); (case hr => first | (go_simp; done) | (go_simp; rfl)); intro gb268 hg w19 hbox hb; have n0_ := asd (blk_below (g := gb267) (o := .cells #[.int .i64 a0_0, .bool a0_1, .int .i64 a0_2, .int .i64 a0_3, .int .i64 a0_4, .int .i64 a0_5, .bool a0_6, .int .i64 a0_7, .int .i64 a0_8, .slice A0_9 l0_9.length c0_9] 67 (0, 0)) (skK BK267.out) hb); have n1_ := asd (below_step (skG HB.out GE267.out GE267.out) hb); have n2_ := asd (hbox); have n3_ := asd ((by rw [hg]; exact (below_size (skG HB.out GE267.out GE267.out)) : w.heap.size ≤ gb268)); have n4_ := asd ((by rw [hg]; exact (below_size (skG HB.out GE267.out GE267.out)) : w.heap.size ≤ gb268)); have n5_ := asd ((by rw [hg]; exact Nat.ne_of_lt (blk_lt (g := gb267) (o := .cells #[.int .i64 a0_0, .bool a0_1, .int .i64 a0_2, .int .i64 a0_3, .int .i64 a0_4, .int .i64 a0_5, .bool a0_6, .int .i64 a0_7, .int .i64 a0_8, .slice A0_9 l0_9.length c0_9] 67 (0, 0)) (skK BK267.out)) : gb267 ≠ gb268)); have n6_ := asd ((by rw [hg]; exact Nat.ne_of_gt (blk_lt (g := gb267) (o := .cells #[.int .i64 a0_0, .bool a0_1, .int .i64 a0_2, .int .i64 a0_3, .int .i64 a0_4, .int .i64 a0_5, .bool a0_6, .int .i64 a0_7, .int .i64 a0_8, .slice A0_9 l0_9.length c0_9] 67 (0, 0)) (skK BK267.out)) : gb268 ≠ gb267)); clear BK267; clear HB; have BK267 := n0_; have HB := n1_; have BK268 := n2_; have GW268 := n3_; have GE268 := n4_; have NB267_268 := n5_; have NB268_267 := n6_; clear n0_ n1_ n2_ n3_ n4_ n5_ n6_; clear hb hbox hg; have hnb20 := NB267_268.out; have hnc20 := NB268_267.out; have hcz21_0 : w19.cell? ⟨gb267, 0, none⟩ = some (.int .i64 a0_0) := (blk_cell BK267.out 0).trans rfl; have hcz21_1 : w19.cell? ⟨gb267, 1, none⟩ = some (.bool a0_1) := (blk_cell BK267.out 1).trans rfl; have hcz21_2 : w19.cell? ⟨gb267, 2, none⟩ = some (.int .i64 a0_2) := (blk_cell BK267.out 2).trans rfl; have hcz21_3 : w19.cell? ⟨gb267, 3, none⟩ = some (.int .i64 a0_3) := (blk_cell BK267.out 3).trans rfl; have hcz21_4 : w19.cell? ⟨gb267, 4, none⟩ = some (.int .i64 a0_4) := (blk_cell BK267.out 4).trans rfl; have hcz21_5 : w19.cell? ⟨gb267, 5, none⟩ = some (.int .i64 a0_5) := (blk_cell BK267.out 5).trans rfl; have hcz21_6 : w19.cell? ⟨gb267, 6, none⟩ = some (.bool a0_6) := (blk_cell BK267.out 6).trans rfl; have hcz21_7 : w19.cell? ⟨gb267, 7, none⟩ = some (.int .i64 a0_7) := (blk_cell BK267.out 7).trans rfl; have hcz21_8 : w19.cell? ⟨gb267, 8, none⟩ = some (.int .i64 a0_8) := (blk_cell BK267.out 8).trans rfl; have hcz21_9 : w19.cell? ⟨gb267, 9, none⟩ = some (.slice A0_9 l0_9.length c0_9) := (blk_cell BK267.out 9).trans rfl; have hfz21_0 := blk_frozen BK267.out 0; have hfz21_1 := blk_frozen BK267.out 1; have hfz21_2 := blk_frozen BK267.out 2; have hfz21_3 := blk_frozen BK267.out 3; have hfz21_4 := blk_frozen BK267.out 4; have hfz21_5 := blk_frozen BK267.out 5; have hfz21_6 := blk_frozen BK267.out 6; have hfz21_7 := blk_frozen BK267.out 7; have hfz21_8 := blk_frozen BK267.out 8; have hfz21_9 := blk_frozen BK267.out 9; have hcz22_0 : w19.cell? ⟨gb268, 0, none⟩ = some (.int .i64 a1_0) := (blk_cell BK268.out 0).trans rfl; have hcz22_1 : w19.cell? ⟨gb268, 1, none⟩ = some (.bool a1_1) := (blk_cell BK268.out 1).trans rfl; have hcz22_2 : w19.cell? ⟨gb268, 2, none⟩ = some (.int .i64 a1_2) := (blk_cell BK268.out 2).trans rfl; have hcz22_3 : w19.cell? ⟨gb268, 3, none⟩ = some (.int .i64 a1_3) := (blk_cell BK268.out 3).trans rfl; have hcz22_4 : w19.cell? ⟨gb268, 4, none⟩ = some (.int .i64 a1_4) := (blk_cell BK268.out 4).trans rfl; have hcz22_5 : w19.cell? ⟨gb268, 5, none⟩ = some (.int .i64 a1_5) := (blk_cell BK268.out 5).trans rfl; have hcz22_6 : w19.cell? ⟨gb268, 6, none⟩ = some (.bool a1_6) := (blk_cell BK268.out 6).trans rfl; have hcz22_7 : w19.cell? ⟨gb268, 7, none⟩ = some (.int .i64 a1_7) := (blk_cell BK268.out 7).trans rfl; have hcz22_8 : w19.cell? ⟨gb268, 8, none⟩ = some (.int .i64 a1_8) := (blk_cell BK268.out 8).trans rfl; have hcz22_9 : w19.cell? ⟨gb268, 9, none⟩ = some (.slice A1_9 l1_9.length c1_9) := (blk_cell BK268.out 9).trans rfl; have hfz22_0 := blk_frozen BK268.out 0; have hfz22_1 := blk_frozen BK268.out 1; have hfz22_2 := blk_frozen BK268.out 2; have hfz22_3 := blk_frozen BK268.out 3; have hfz22_4 := blk_frozen BK268.out 4; have hfz22_5 := blk_frozen BK268.out 5; have hfz22_6 := blk_frozen BK268.out 6; have hfz22_7 := blk_frozen BK268.out 7; have hfz22_8 := blk_frozen BK268.out 8; have hfz22_9 := blk_frozen BK268.out 9))
   go_ret
   exact ⟨re, skG HB.out GE267.out GE268.out⟩
 ·
  rw [if_neg c3] at H
  have c3b0 : (a0_0 == a1_0) = false := beq_eq_false_iff_ne.mpr c3
  have c3b1 : (a0_0 != a1_0) = true := bne_iff_ne.mpr c3
  obtain rfl := Option.some.inj H
  go_enter Try.func54, Try.ntmps54
  go_wp2_with (first | ((with_reducible refine gate_dst (N := 2) rfl ?_); refine box_event ?hg (N := 2) ?hd (cs := #[.int .i64 a0_0, .bool a0_1, .int .i64 a0_2, .int .i64 a0_3, .int .i64 a0_4, .int .i64 a0_5, .bool a0_6, .int .i64 a0_7, .int .i64 a0_8, .slice A0_9 l0_9.length c0_9]) (t := 67) ?hr ?_; (case hd => rfl); (case hg => rfl); (case hr => first | (go_simp; done) | (go_simp; rfl)); intro gb267 hg w23 hbox hb; have n0_ := asd (below_step (skB HB.out) hb); have n1_ := asd (hbox); have n2_ := asd ((by rw [hg]; exact (below_size (skB HB.out)) : w.heap.size ≤ gb267)); have n3_ := asd ((by rw [hg]; exact (below_size (skB HB.out)) : w.heap.size ≤ gb267)); clear HB; have HB := n0_; have BK267 := n1_; have GW267 := n2_; have GE267 := n3_; clear n0_ n1_ n2_ n3_; clear hb hbox hg) | ((with_reducible refine gate_dst (N := 3) rfl ?_); refine box_event ?hg (N := 3) ?hd (cs := #[.int .i64 a1_0, .bool a1_1, .int .i64 a1_2, .int .i64 a1_3, .int .i64 a1_4, .int .i64 a1_5, .bool a1_6, .int .i64 a1_7, .int .i64 a1_8, .slice A1_9 l1_9.length c1_9]) (t := 67) ?hr ?_; (case hd => rfl); (case hg => rfl); (case hr => first | (go_simp; done) | (go_simp; rfl)); intro gb268 hg w24 hbox hb; have n0_ := asd (blk_below (g := gb267) (o := .cells #[.int .i64 a0_0, .bool a0_1, .int .i64 a0_2, .int .i64 a0_3, .int .i64 a0_4, .int .i64 a0_5, .bool a0_6, .int .i64 a0_7, .int .i64 a0_8, .slice A0_9 l0_9.length c0_9] 67 (0, 0)) (skK BK267.out) hb); have n1_ := asd (below_step (skG HB.out GE267.out GE267.out) hb); have n2_ := asd (hbox); have n3_ := asd ((by rw [hg]; exact (below_size (skG HB.out GE267.out GE267.out)) : w.heap.size ≤ gb268)); have n4_ := asd ((by rw [hg]; exact (below_size (skG HB.out GE267.out GE267.out)) : w.heap.size ≤ gb268)); have n5_ := asd ((by rw [hg]; exact Nat.ne_of_lt (blk_lt (g := gb267) (o := .cells #[.int .i64 a0_0, .bool a0_1, .int .i64 a0_2, .int .i64 a0_3, .int .i64 a0_4, .int .i64 a0_5, .bool a0_6, .int .i64 a0_7, .int .i64 a0_8, .slice A0_9 l0_9.length c0_9] 67 (0, 0)) (skK BK267.out)) : gb267 ≠ gb268)); have n6_ := asd ((by rw [hg]; exact Nat.ne_of_gt (blk_lt (g := gb267) (o := .cells #[.int .i64 a0_0, .bool a0_1, .int .i64 a0_2, .int .i64 a0_3, .int .i64 a0_4, .int .i64 a0_5, .bool a0_6, .int .i64 a0_7, .int .i64 a0_8, .slice A0_9 l0_9.length c0_9] 67 (0, 0)) (skK BK267.out)) : gb268 ≠ gb267)); clear BK267; clear HB; have BK267 := n0_; have HB := n1_; have BK268 := n2_; have GW268 := n3_; have GE268 := n4_; have NB267_268 := n5_; have NB268_267 := n6_; clear n0_ n1_ n2_ n3_ n4_ n5_ n6_; clear hb hbox hg; have hnb25 := NB267_268.out; have hnc25 := NB268_267.out; have hcz26_0 : w24.cell? ⟨gb267, 0, none⟩ = some (.int .i64 a0_0) := (blk_cell BK267.out 0).trans rfl; have hcz26_1 : w24.cell? ⟨gb267, 1, none⟩ = some (.bool a0_1) := (blk_cell BK267.out 1).trans rfl; have hcz26_2 : w24.cell? ⟨gb267, 2, none⟩ = some (.int .i64 a0_2) := (blk_cell BK267.out 2).trans rfl; have hcz26_3 : w24.cell? ⟨gb267, 3, none⟩ = some (.int .i64 a0_3) := (blk_cell BK267.out 3).trans rfl; have hcz26_4 : w24.cell? ⟨gb267, 4, none⟩ = some (.int .i64 a0_4) := (blk_cell BK267.out 4).trans rfl; have hcz26_5 : w24.cell? ⟨gb267, 5, none⟩ = some (.int .i64 a0_5) := (blk_cell BK267.out 5).trans rfl; have hcz26_6 : w24.cell? ⟨gb267, 6, none⟩ = some (.bool a0_6) := (blk_cell BK267.out 6).trans rfl; have hcz26_7 : w24.cell? ⟨gb267, 7, none⟩ = some (.int .i64 a0_7) := (blk_cell BK267.out 7).trans rfl; have hcz26_8 : w24.cell? ⟨gb267, 8, none⟩ = some (.int .i64 a0_8) := (blk_cell BK267.out 8).trans rfl; have hcz26_9 : w24.cell? ⟨gb267, 9, none⟩ = some (.slice A0_9 l0_9.length c0_9) := (blk_cell BK267.out 9).trans rfl; have hfz26_0 := blk_frozen BK267.out 0; have hfz26_1 := blk_frozen BK267.out 1; have hfz26_2 := blk_frozen BK267.out 2; have hfz26_3 := blk_frozen BK267.out 3; have hfz26_4 := blk_frozen BK267.out 4; have hfz26_5 := blk_frozen BK267.out 5; have hfz26_6 := blk_frozen BK267.out 6; have hfz26_7 := blk_frozen BK267.out 7; have hfz26_8 := blk_frozen BK267.out 8; have hfz26_9 := blk_frozen BK267.out 9; have hcz27_0 : w24.cell? ⟨gb268, 0, none⟩ = some (.int .i64 a1_0) := (blk_cell BK268.out 0).trans rfl; have hcz27_1 : w24.cell? ⟨gb268, 1, none⟩ = some (.bool a1_1) := (blk_cell BK268.out 1).trans rfl; have hcz27_2 : w24.cell? ⟨gb268, 2, none⟩ = some (.int .i64 a1_2) := (blk_cell BK268.out 2).trans rfl; have hcz27_3 : w24.cell? ⟨gb268, 3, none⟩ = some (.int .i64 a1_3) := (blk_cell BK268.out 3).trans rfl; have hcz27_4 : w24.cell? ⟨gb268, 4, none⟩ = some (.int .i64 a1_4) := (blk_cell BK268.out 4).trans rfl; have hcz27_5 : w24.cell? ⟨gb268, 5, none⟩ = some (.int .i64 a1_5) := (blk_cell BK268.out 5).trans rfl; have hcz27_6 : w24.cell? ⟨gb268, 6, none⟩ = some (.bool a1_6) := (blk_cell BK268.out 6).trans rfl; have hcz27_7 : w24.cell? ⟨gb268, 7, none⟩ = some (.int .i64 a1_7) := (blk_cell BK268.out 7).trans rfl; have hcz27_8 : w24.cell? ⟨gb268, 8, none⟩ = some (.int .i64 a1_8) := (blk_cell BK268.out 8).trans rfl; have hcz27_9 : w24.cell? ⟨gb268, 9, none⟩ = some (.slice A1_9 l1_9.length c1_9) := (blk_cell BK268.out 9).trans rfl; have hfz27_0 := blk_frozen BK268.out 0; have hfz27_1 := blk_frozen BK268.out 1; have hfz27_2 := blk_frozen BK268.out 2; have hfz27_3 := blk_frozen BK268.out 3; have hfz27_4 := blk_frozen BK268.out 4; have hfz27_5 := blk_frozen BK268.out 5; have hfz27_6 := blk_frozen BK268.out 6; have hfz27_7 := blk_frozen BK268.out 7; have hfz27_8 := blk_frozen BK268.out 8; have hfz27_9 := blk_frozen BK268.out 9))
  go_ret
  exact ⟨re, skG HB.out GE267.out GE268.out⟩
end Go.Proofs.Ytagdkmcgepidoaa.P
/- F35 -/
namespace Go.Proofs.Ytagdkmcgepidoaa.P
open Go.RowKit Go.Proofs.YtagdkmcgepidoaaW.PrintWords Go.Proofs.YtagdkmcgepidoaaW.PrintLast Go.Proofs.YtagdkmcgepidoaaW.PrintMore
attribute [local go_sem] max2_int min2_int max_two min_two max_three min_three max_four min_four   -- for this text's walks alone
set_option linter.unusedVariables false
set_option linter.unusedSimpArgs false
def larchref05_SameEvents.l0 : Nat → List (S67) → List (S67) → Int → Option (Bool)
 | 0, _, _, _ => none
 | k + 1, x0, x1, x5 => if x5 < (x0.length : Int) then (if 0 ≤ x5 then (if x5 < (x1.length : Int) then ((larchref05_sameEvent.f k ((J67 x0 x5).f0) ((J67 x0 x5).f1) ((J67 x0 x5).f2.f0) ((J67 x0 x5).f2.f1) ((J67 x0 x5).f2.f2) ((J67 x0 x5).f2.f3) ((J67 x0 x5).f3.f0) ((J67 x0 x5).f3.f1) ((J67 x0 x5).f3.f2) ((J67 x0 x5).f3.f3) ((J67 x1 x5).f0) ((J67 x1 x5).f1) ((J67 x1 x5).f2.f0) ((J67 x1 x5).f2.f1) ((J67 x1 x5).f2.f2) ((J67 x1 x5).f2.f3) ((J67 x1 x5).f3.f0) ((J67 x1 x5).f3.f1) ((J67 x1 x5).f3.f2) ((J67 x1 x5).f3.f3)).bind fun t272 => (if t272 = true then (larchref05_SameEvents.l0 k x0 x1 (wrap64 (x5 + 1))) else (some false))) else (none)) else (none)) else (some true)
def larchref05_SameEvents.f (k : Nat) (l0 : List (S67)) (l1 : List (S67)) : Option (Bool) := if (l0.length : Int) = (l1.length : Int) then (larchref05_SameEvents.l0 k l0 l1 0) else (some false)
def larchref05_SameEvents.T6 : Bool × List (List Nat × List Nat) := (true, [([], []), ([], []), ([0, 1], [0, 1]), ([2], [2]), ([], []), ([], []), ([4, 5], [4, 5]), ([6], [6]), ([3, 7], [3, 7]), ([8], [8])])
def larchref05_SameEvents.B6 : List Nat := [0, 0, 3, 7, 0, 0, 48, 112, 255, 511]
theorem larchref05_SameEvents.tab6 : rtab .any (opsOf Try.f29 6) = larchref05_SameEvents.T6 := by kernel_rfl
theorem larchref05_SameEvents.bits6 : waitsOk larchref05_SameEvents.T6.2 larchref05_SameEvents.B6 = true := by kernel_rfl
set_option maxHeartbeats 8000000 in
set_option maxRecDepth 100000 in
theorem larchref05_SameEvents.calls (k : Nat) (A0 : Option Addr) (c0 : Nat) (l0 : List (S67)) (A1 : Option Addr) (c1 : Nat) (l1 : List (S67)) (r : Bool) (w : World) (hr0 : Kd.C k67 w A0 l0.length l0) (hc0 : l0.length ≤ c0) (hr1 : Kd.C k67 w A1 l1.length l1) (hc1 : l1.length ≤ c1) (h : larchref05_SameEvents.f k l0 l1 = some r) :
  Calls Try.prog 29 #[.slice A0 l0.length c0, .slice A1 l1.length c1] w fun e w' => e = .returned (.bool r) ∧ Below w.heap.size w w' := by
 have hu67 := Try.underlying67
 have HR0 := asd hr0
 have HC0 := asd hc0
 clear hr0 hc0
 have HR1 := asd hr1
 have HC1 := asd hc1
 clear hr1 hc1
 have HB := asd (Below.refl w.heap.size w)
 have H : (if (l0.length : Int) = (l1.length : Int) then (larchref05_SameEvents.l0 k l0 l1 0) else (some false)) = some r := h
 clear h
 by_cases c3 : (l0.length : Int) = (l1.length : Int)
 ·
  rw [if_pos c3] at H
  have c3b0 : ((l0.length : Int) == (l1.length : Int)) = true := beq_iff_eq.mpr c3
  have c3b1 : ((l0.length : Int) != (l1.length : Int)) = false := bne_eq_false_iff_eq.mpr c3
  have c3b2 : (l0.length == l1.length) = true := by first | simpa using c3 | (simp at c3 ⊢; omega)
  clear c3
  have H' := asd H
  clear H
  go_enter Try.func29, Try.ntmps29
  go_wp2
  go_loopg [5] k (fun kq v5 w' => ∃ (x5_1 : Int), v5 = .int .i64 x5_1 ∧ Aside0 (larchref05_SameEvents.l0 kq l0 l1 x5_1 = some r) ∧ Aside0 (kq ≤ k) ∧ Aside0 (Below w.heap.size w w'))
  case atStart => exact ⟨(0), rs, H', ⟨Nat.le_refl _⟩, ⟨skB HB.out⟩⟩
  case round =>
   clear H'
   try clear c1
   try clear c2
   try clear p2
   try clear c3
   try clear c3b0
   try clear c3b1
   try clear c3b2
   obtain ⟨x5_1, rfl, HA, HK1, HB⟩ := hrel
   cases gk with
   | zero => exact absurd HA.out (by simp [larchref05_SameEvents.l0])
   | succ k1 =>
    have H := HA.out
    clear HA
    simp only [larchref05_SameEvents.l0] at H
    by_cases c4 : x5_1 < (l0.length : Int)
    ·
     rw [if_pos c4] at H
     have c4b0 : decide (x5_1 < (l0.length : Int)) = true := decide_eq_true c4
     clear c4
     by_cases c5 : 0 ≤ x5_1
     ·
      rw [if_pos c5] at H
      have c5b0 : decide (0 ≤ x5_1) = true := decide_eq_true c5
      clear c5
      by_cases c6 : x5_1 < (l1.length : Int)
      ·
       rw [if_pos c6] at H
       have c6b0 : decide (x5_1 < (l1.length : Int)) = true := decide_eq_true c6
       clear c6
       replace H := Option.bind_eq_some_iff.mp H
       obtain ⟨t272, A70, H⟩ := H
       replace H : (if t272 = true then (larchref05_SameEvents.l0 k1 l0 l1 (wrap64 (x5_1 + 1))) else (some false)) = some r := H
       have A7 := asd A70
       clear A70
       by_cases c8 : t272 = true
       ·
        subst c8
        have H1 : (larchref05_SameEvents.l0 k1 l0 l1 (wrap64 (x5_1 + 1))) = some r := by rw [if_pos rfl] at H; exact H
        clear H
        have H := H1
        clear H1
        have H' := asd H
        clear H
        try go_wp2
        have n0_ := asd (below_drew1 HB.out)
        clear HB
        have HB := n0_
        clear n0_
        have p270 : 0 ≤ (x5_1 : Int) := dt
        have q270 : x5_1 < (l0.length : Int) := dt
        obtain ⟨ad270, A270_9, c270_9, e270, hx270_0, hx270_1, hx270_2, hx270_3, hx270_4, hx270_5, hx270_6, hx270_7, hx270_8, hx270_9, hl270_9, hi270_9⟩ := at_T67 HR0.out x5_1 p270 q270
        have hw270_9 := hx270_9
        have hw270_8 := hx270_8
        have hw270_7 := hx270_7
        have hw270_6 := hx270_6
        have hw270_5 := hx270_5
        have hw270_4 := hx270_4
        have hw270_3 := hx270_3
        have hw270_2 := hx270_2
        have hw270_1 := hx270_1
        have hw270_0 := hx270_0
        cases e270
        replace hx270_0 := skc HB.out hx270_0
        replace hx270_1 := skc HB.out hx270_1
        replace hx270_2 := skc HB.out hx270_2
        replace hx270_3 := skc HB.out hx270_3
        replace hx270_4 := skc HB.out hx270_4
        replace hx270_5 := skc HB.out hx270_5
        replace hx270_6 := skc HB.out hx270_6
        replace hx270_7 := skc HB.out hx270_7
        replace hx270_8 := skc HB.out hx270_8
        replace hx270_9 := skc HB.out hx270_9
        have HR270_9 := asd hi270_9
        have HC270_9 := asd hl270_9
        clear hi270_9 hl270_9
        replace p270 := eq_true p270
        replace q270 := eq_true q270
        have p271 : 0 ≤ (x5_1 : Int) := dt
        have q271 : x5_1 < (l1.length : Int) := dt
        obtain ⟨ad271, A271_9, c271_9, e271, hx271_0, hx271_1, hx271_2, hx271_3, hx271_4, hx271_5, hx271_6, hx271_7, hx271_8, hx271_9, hl271_9, hi271_9⟩ := at_T67 HR1.out x5_1 p271 q271
        have hw271_9 := hx271_9
        have hw271_8 := hx271_8
        have hw271_7 := hx271_7
        have hw271_6 := hx271_6
        have hw271_5 := hx271_5
        have hw271_4 := hx271_4
        have hw271_3 := hx271_3
        have hw271_2 := hx271_2
        have hw271_1 := hx271_1
        have hw271_0 := hx271_0
        cases e271
        replace hx271_0 := skc HB.out hx271_0
        replace hx271_1 := skc HB.out hx271_1
        replace hx271_2 := skc HB.out hx271_2
        replace hx271_3 := skc HB.out hx271_3
        replace hx271_4 := skc HB.out hx271_4
        replace hx271_5 := skc HB.out hx271_5
        replace hx271_6 := skc HB.out hx271_6
        replace hx271_7 := skc HB.out hx271_7
        replace hx271_8 := skc HB.out hx271_8
        replace hx271_9 := skc HB.out hx271_9
        have HR271_9 := asd hi271_9
        have HC271_9 := asd hl271_9
        clear hi271_9 hl271_9
        replace p271 := eq_true p271
        replace q271 := eq_true q271
        refine start_ (n := 10) (S := fun w' => w'.cell? (ad270.add ((x5_1).toNat * 10)) = some (.int .i64 ((J67 l0 x5_1).f0)) ∧ w'.cell? ⟨(ad270.add ((x5_1).toNat * 10)).block, (ad270.add ((x5_1).toNat * 10)).off + 1, none⟩ = some (.bool ((J67 l0 x5_1).f1)) ∧ w'.cell? ⟨(ad270.add ((x5_1).toNat * 10)).block, (ad270.add ((x5_1).toNat * 10)).off + 2, none⟩ = some (.int .i64 ((J67 l0 x5_1).f2.f0)) ∧ w'.cell? ⟨(ad270.add ((x5_1).toNat * 10)).block, (ad270.add ((x5_1).toNat * 10)).off + 3, none⟩ = some (.int .i64 ((J67 l0 x5_1).f2.f1)) ∧ w'.cell? ⟨(ad270.add ((x5_1).toNat * 10)).block, (ad270.add ((x5_1).toNat * 10)).off + 4, none⟩ = some (.int .i64 ((J67 l0 x5_1).f2.f2)) ∧ w'.cell? ⟨(ad270.add ((x5_1).toNat * 10)).block, (ad270.add ((x5_1).toNat * 10)).off + 5, none⟩ = some (.int .i64 ((J67 l0 x5_1).f2.f3)) ∧ w'.cell? ⟨(ad270.add ((x5_1).toNat * 10)).block, (ad270.add ((x5_1).toNat * 10)).off + 6, none⟩ = some (.bool ((J67 l0 x5_1).f3.f0)) ∧ w'.cell? ⟨(ad270.add ((x5_1).toNat * 10)).block, (ad270.add ((x5_1).toNat * 10)).off + 7, none⟩ = some (.int .i64 ((J67 l0 x5_1).f3.f1)) ∧ w'.cell? ⟨(ad270.add ((x5_1).toNat * 10)).block, (ad270.add ((x5_1).toNat * 10)).off + 8, none⟩ = some (.int .i64 ((J67 l0 x5_1).f3.f2)) ∧ w'.cell? ⟨(ad270.add ((x5_1).toNat * 10)).block, (ad270.add ((x5_1).toNat * 10)).off + 9, none⟩ = some (.slice A270_9 ((J67 l0 x5_1).f3.f3).length c270_9) ∧ w'.cell? (ad271.add ((x5_1).toNat * 10)) = some (.int .i64 ((J67 l1 x5_1).f0)) ∧ w'.cell? ⟨(ad271.add ((x5_1).toNat * 10)).block, (ad271.add ((x5_1).toNat * 10)).off + 1, none⟩ = some (.bool ((J67 l1 x5_1).f1)) ∧ w'.cell? ⟨(ad271.add ((x5_1).toNat * 10)).block, (ad271.add ((x5_1).toNat * 10)).off + 2, none⟩ = some (.int .i64 ((J67 l1 x5_1).f2.f0)) ∧ w'.cell? ⟨(ad271.add ((x5_1).toNat * 10)).block, (ad271.add ((x5_1).toNat * 10)).off + 3, none⟩ = some (.int .i64 ((J67 l1 x5_1).f2.f1)) ∧ w'.cell? ⟨(ad271.add ((x5_1).toNat * 10)).block, (ad271.add ((x5_1).toNat * 10)).off + 4, none⟩ = some (.int .i64 ((J67 l1 x5_1).f2.f2)) ∧ w'.cell? ⟨(ad271.add ((x5_1).toNat * 10)).block, (ad271.add ((x5_1).toNat * 10)).off + 5, none⟩ = some (.int .i64 ((J67 l1 x5_1).f2.f3)) ∧ w'.cell? ⟨(ad271.add ((x5_1).toNat * 10)).block, (ad271.add ((x5_1).toNat * 10)).off + 6, none⟩ = some (.bool ((J67 l1 x5_1).f3.f0)) ∧ w'.cell? ⟨(ad271.add ((x5_1).toNat * 10)).block, (ad271.add ((x5_1).toNat * 10)).off + 7, none⟩ = some (.int .i64 ((J67 l1 x5_1).f3.f1)) ∧ w'.cell? ⟨(ad271.add ((x5_1).toNat * 10)).block, (ad271.add ((x5_1).toNat * 10)).off + 8, none⟩ = some (.int .i64 ((J67 l1 x5_1).f3.f2)) ∧ w'.cell? ⟨(ad271.add ((x5_1).toNat * 10)).block, (ad271.add ((x5_1).toNat * 10)).off + 9, none⟩ = some (.slice A271_9 ((J67 l1 x5_1).f3.f3).length c271_9)) (ds := []) #[false,false,false,false,false,false,false,false,false,false] (by kernel_rfl) rfl rfl ⟨(skc HB.out hw270_0), (skc HB.out hw270_1), (skc HB.out hw270_2), (skc HB.out hw270_3), (skc HB.out hw270_4), (skc HB.out hw270_5), (skc HB.out hw270_6), (skc HB.out hw270_7), (skc HB.out hw270_8), (skc HB.out hw270_9), (skc HB.out hw271_0), (skc HB.out hw271_1), (skc HB.out hw271_2), (skc HB.out hw271_3), (skc HB.out hw271_4), (skc HB.out hw271_5), (skc HB.out hw271_6), (skc HB.out hw271_7), (skc HB.out hw271_8), (skc HB.out hw271_9)⟩ (fun hHeld => ?_); refine with_tabW larchref05_SameEvents.tab6 larchref05_SameEvents.bits6 (fun HT_ HW_ => ?_)
        generalize wr.drew = w9 at HB HR270_9 HR271_9 hx270_0 hx270_1 hx270_2 hx270_3 hx270_4 hx270_5 hx270_6 hx270_7 hx270_8 hx270_9 hx271_0 hx271_1 hx271_2 hx271_3 hx271_4 hx271_5 hx271_6 hx271_7 hx271_8 hx271_9 hHeld ⊢
        refine pure_ (i := 0) (N := some 17) (v := ?_) (a' := ?_) #[true,false,false,false,false,false,false,false,false,false] rfl rfl (aK HT_.out) (fun _ _ _ h => h) (Or.inl ⟨by rfl, ?_⟩) ?_ ?_
        rotate_left
        ·
         intro w'
         go_simp
         with_reducible rfl
        rotate_left
        ·
         simp only [Act.put, sp]
         rfl
        refine pure_ (i := 1) (N := some 18) (v := ?_) (a' := ?_) #[true,true,false,false,false,false,false,false,false,false] rfl rfl (aK HT_.out) (fun _ _ _ h => h) (Or.inl ⟨by rfl, ?_⟩) ?_ ?_
        rotate_left
        ·
         intro w'
         go_simp
         with_reducible rfl
        rotate_left
        ·
         simp only [Act.put, sp]
         rfl
        refine pure_ (i := 2) (N := some 19) (v := ?_) (a' := ?_) #[true,true,true,false,false,false,false,false,false,false] rfl rfl (aK HT_.out) (fun _ _ _ h => h) (Or.inl ⟨by rfl, ?_⟩) ?_ ?_
        rotate_left
        ·
         intro w'
         go_simp
         with_reducible rfl
        rotate_left
        ·
         simp only [Act.put, sp]
         rfl
        refine pure_ (i := 4) (N := some 21) (v := ?_) (a' := ?_) #[true,true,true,false,true,false,false,false,false,false] rfl rfl (aK HT_.out) (fun _ _ _ h => h) (Or.inl ⟨by rfl, ?_⟩) ?_ ?_
        rotate_left
        ·
         intro w'
         go_simp
         with_reducible rfl
        rotate_left
        ·
         simp only [Act.put, sp]
         rfl
        refine pure_ (i := 5) (N := some 22) (v := ?_) (a' := ?_) #[true,true,true,false,true,true,false,false,false,false] rfl rfl (aK HT_.out) (fun _ _ _ h => h) (Or.inl ⟨by rfl, ?_⟩) ?_ ?_
        rotate_left
        ·
         intro w'
         go_simp
         with_reducible rfl
        rotate_left
        ·
         simp only [Act.put, sp]
         rfl
        refine pure_ (i := 6) (N := some 23) (v := ?_) (a' := ?_) #[true,true,true,false,true,true,true,false,false,false] rfl rfl (aK HT_.out) (fun _ _ _ h => h) (Or.inl ⟨by rfl, ?_⟩) ?_ ?_
        rotate_left
        ·
         intro w'
         go_simp
         with_reducible rfl
        rotate_left
        ·
         simp only [Act.put, sp]
         rfl
        refine take_ (i := 3) (N := some 20) (v := ?_) (a' := ?_) #[true,true,true,true,true,true,true,false,false,false] rfl rfl (take_ofW HT_.out HW_.out (by kernel_rfl)) (fun _ _ _ h => h) (Or.inl ⟨by rfl, ?_⟩) hHeld ?_ ?_
        rotate_left
        ·
         rintro w' ⟨s0, s1, s2, s3, s4, s5, s6, s7, s8, s9, s10, s11, s12, s13, s14, s15, s16, s17, s18, s19⟩
         go_simp
         with_reducible rfl
        rotate_left
        ·
         simp only [Act.put, sp]
         rfl
        refine take_ (i := 7) (N := some 24) (v := ?_) (a' := ?_) #[true,true,true,true,true,true,true,true,false,false] rfl rfl (take_ofW HT_.out HW_.out (by kernel_rfl)) (fun _ _ _ h => h) (Or.inl ⟨by rfl, ?_⟩) hHeld ?_ ?_
        rotate_left
        ·
         rintro w' ⟨s0, s1, s2, s3, s4, s5, s6, s7, s8, s9, s10, s11, s12, s13, s14, s15, s16, s17, s18, s19⟩
         go_simp
         with_reducible rfl
        rotate_left
        ·
         simp only [Act.put, sp]
         rfl
        refine one_ (i := 8) (N := some 25) #[true,true,true,true,true,true,true,true,true,false] rfl rfl (one_of HT_.out (by kernel_rfl)) (by decide) (fun K hK => ?_)
        refine goes_ Try.func54 (by kernel_rfl) rfl #[.agg #[.int .i64 ((J67 l0 x5_1).f0), .bool ((J67 l0 x5_1).f1), .int .i64 ((J67 l0 x5_1).f2.f0), .int .i64 ((J67 l0 x5_1).f2.f1), .int .i64 ((J67 l0 x5_1).f2.f2), .int .i64 ((J67 l0 x5_1).f2.f3), .bool ((J67 l0 x5_1).f3.f0), .int .i64 ((J67 l0 x5_1).f3.f1), .int .i64 ((J67 l0 x5_1).f3.f2), .slice A270_9 ((J67 l0 x5_1).f3.f3).length c270_9], .agg #[.int .i64 ((J67 l1 x5_1).f0), .bool ((J67 l1 x5_1).f1), .int .i64 ((J67 l1 x5_1).f2.f0), .int .i64 ((J67 l1 x5_1).f2.f1), .int .i64 ((J67 l1 x5_1).f2.f2), .int .i64 ((J67 l1 x5_1).f2.f3), .bool ((J67 l1 x5_1).f3.f0), .int .i64 ((J67 l1 x5_1).f3.f1), .int .i64 ((J67 l1 x5_1).f3.f2), .slice A271_9 ((J67 l1 x5_1).f3.f3).length c271_9]] (by rfl) rfl rfl ags ?_
        with_reducible refine (larchref05_sameEvent.calls k1 ((J67 l0 x5_1).f0) ((J67 l0 x5_1).f1) ((J67 l0 x5_1).f2.f0) ((J67 l0 x5_1).f2.f1) ((J67 l0 x5_1).f2.f2) ((J67 l0 x5_1).f2.f3) ((J67 l0 x5_1).f3.f0) ((J67 l0 x5_1).f3.f1) ((J67 l0 x5_1).f3.f2) _ _ ((J67 l0 x5_1).f3.f3) ((J67 l1 x5_1).f0) ((J67 l1 x5_1).f1) ((J67 l1 x5_1).f2.f0) ((J67 l1 x5_1).f2.f1) ((J67 l1 x5_1).f2.f2) ((J67 l1 x5_1).f2.f3) ((J67 l1 x5_1).f3.f0) ((J67 l1 x5_1).f3.f1) ((J67 l1 x5_1).f3.f2) _ _ ((J67 l1 x5_1).f3.f3) true _ ?side1 ?side2 ?side3 ?side4 A7.out).mono ?_
        (case side1 => exact skC (Kd.C_below HR270_9.out HB.out))
        (case side2 => exact HC270_9.out)
        (case side3 => exact skC (Kd.C_below HR271_9.out HB.out))
        (case side4 => exact HC271_9.out)
        rintro e w10 ⟨rfl, hb⟩
        refine ⟨_, rfl, ?_⟩
        have n0_ := asd (below_step (skB HB.out) hb)
        clear HB
        have HB := n0_
        clear n0_
        (try clear hb)
        (try clear hb2)
        (try clear hk)
        (try clear hi)
        refine hK.out _ _ ⟨(skc HB.out hw270_0), (skc HB.out hw270_1), (skc HB.out hw270_2), (skc HB.out hw270_3), (skc HB.out hw270_4), (skc HB.out hw270_5), (skc HB.out hw270_6), (skc HB.out hw270_7), (skc HB.out hw270_8), (skc HB.out hw270_9), (skc HB.out hw271_0), (skc HB.out hw271_1), (skc HB.out hw271_2), (skc HB.out hw271_3), (skc HB.out hw271_4), (skc HB.out hw271_5), (skc HB.out hw271_6), (skc HB.out hw271_7), (skc HB.out hw271_8), (skc HB.out hw271_9)⟩ (fun hHeld => ?_)
        clear hK K
        refine norm_ (a' := ?_) ?_ ?_
        rotate_left
        ·
         show Act.put _ (some 25) _ = _
         simp only [Act.put, sp]
         rfl
        refine pure_ (i := 9) (N := some 26) (v := ?_) (a' := ?_) #[true,true,true,true,true,true,true,true,true,true] rfl rfl (aK HT_.out) (fun _ _ _ h => h) (Or.inl ⟨by rfl, ?_⟩) ?_ ?_
        rotate_left
        ·
         intro w'
         go_simp
         with_reducible rfl
        rotate_left
        ·
         simp only [Act.put, sp]
         rfl
        refine done_ (done_of HT_.out (by kernel_rfl)) ?_
        try go_wp2
        go_roundg k1
        case measure => have := HK1.out; omega
        case rel => exact ⟨(wrap64 (x5_1 + 1)), rs, H', ⟨by have := HK1.out; omega⟩, ⟨skB HB.out⟩⟩
       ·
        replace c8 := Bool.eq_false_iff.mpr c8
        subst c8
        have H1 : (some false) = some r := by rw [if_neg (show ¬ (false = true) by decide)] at H; exact H
        clear H
        have H := H1
        clear H1
        obtain rfl := Option.some.inj H
        try go_wp2
        have n0_ := asd (below_drew1 HB.out)
        clear HB
        have HB := n0_
        clear n0_
        have p270 : 0 ≤ (x5_1 : Int) := dt
        have q270 : x5_1 < (l0.length : Int) := dt
        obtain ⟨ad270, A270_9, c270_9, e270, hx270_0, hx270_1, hx270_2, hx270_3, hx270_4, hx270_5, hx270_6, hx270_7, hx270_8, hx270_9, hl270_9, hi270_9⟩ := at_T67 HR0.out x5_1 p270 q270
        have hw270_9 := hx270_9
        have hw270_8 := hx270_8
        have hw270_7 := hx270_7
        have hw270_6 := hx270_6
        have hw270_5 := hx270_5
        have hw270_4 := hx270_4
        have hw270_3 := hx270_3
        have hw270_2 := hx270_2
        have hw270_1 := hx270_1
        have hw270_0 := hx270_0
        cases e270
        replace hx270_0 := skc HB.out hx270_0
        replace hx270_1 := skc HB.out hx270_1
        replace hx270_2 := skc HB.out hx270_2
        replace hx270_3 := skc HB.out hx270_3
        replace hx270_4 := skc HB.out hx270_4
        replace hx270_5 := skc HB.out hx270_5
        replace hx270_6 := skc HB.out hx270_6
        replace hx270_7 := skc HB.out hx270_7
        replace hx270_8 := skc HB.out hx270_8
        replace hx270_9 := skc HB.out hx270_9
        have HR270_9 := asd hi270_9
        have HC270_9 := asd hl270_9
        clear hi270_9 hl270_9
        replace p270 := eq_true p270
        replace q270 := eq_true q270
        have p271 : 0 ≤ (x5_1 : Int) := dt
        have q271 : x5_1 < (l1.length : Int) := dt
        obtain ⟨ad271, A271_9, c271_9, e271, hx271_0, hx271_1, hx271_2, hx271_3, hx271_4, hx271_5, hx271_6, hx271_7, hx271_8, hx271_9, hl271_9, hi271_9⟩ := at_T67 HR1.out x5_1 p271 q271
        have hw271_9 := hx271_9
        have hw271_8 := hx271_8
        have hw271_7 := hx271_7
        have hw271_6 := hx271_6
        have hw271_5 := hx271_5
        have hw271_4 := hx271_4
        have hw271_3 := hx271_3
        have hw271_2 := hx271_2
        have hw271_1 := hx271_1
        have hw271_0 := hx271_0
        cases e271
        replace hx271_0 := skc HB.out hx271_0
        replace hx271_1 := skc HB.out hx271_1
        replace hx271_2 := skc HB.out hx271_2
        replace hx271_3 := skc HB.out hx271_3
        replace hx271_4 := skc HB.out hx271_4
        replace hx271_5 := skc HB.out hx271_5
        replace hx271_6 := skc HB.out hx271_6
        replace hx271_7 := skc HB.out hx271_7
        replace hx271_8 := skc HB.out hx271_8
        replace hx271_9 := skc HB.out hx271_9
        have HR271_9 := asd hi271_9
        have HC271_9 := asd hl271_9
        clear hi271_9 hl271_9
        replace p271 := eq_true p271
        replace q271 := eq_true q271
        refine start_ (n := 10) (S := fun w' => w'.cell? (ad270.add ((x5_1).toNat * 10)) = some (.int .i64 ((J67 l0 x5_1).f0)) ∧ w'.cell? ⟨(ad270.add ((x5_1).toNat * 10)).block, (ad270.add ((x5_1).toNat * 10)).off + 1, none⟩ = some (.bool ((J67 l0 x5_1).f1)) ∧ w'.cell? ⟨(ad270.add ((x5_1).toNat * 10)).block, (ad270.add ((x5_1).toNat * 10)).off + 2, none⟩ = some (.int .i64 ((J67 l0 x5_1).f2.f0)) ∧ w'.cell? ⟨(ad270.add ((x5_1).toNat * 10)).block, (ad270.add ((x5_1).toNat * 10)).off + 3, none⟩ = some (.int .i64 ((J67 l0 x5_1).f2.f1)) ∧ w'.cell? ⟨(ad270.add ((x5_1).toNat * 10)).block, (ad270.add ((x5_1).toNat * 10)).off + 4, none⟩ = some (.int .i64 ((J67 l0 x5_1).f2.f2)) ∧ w'.cell? ⟨(ad270.add ((x5_1).toNat * 10)).block, (ad270.add ((x5_1).toNat * 10)).off + 5, none⟩ = some (.int .i64 ((J67 l0 x5_1).f2.f3)) ∧ w'.cell? ⟨(ad270.add ((x5_1).toNat * 10)).block, (ad270.add ((x5_1).toNat * 10)).off + 6, none⟩ = some (.bool ((J67 l0 x5_1).f3.f0)) ∧ w'.cell? ⟨(ad270.add ((x5_1).toNat * 10)).block, (ad270.add ((x5_1).toNat * 10)).off + 7, none⟩ = some (.int .i64 ((J67 l0 x5_1).f3.f1)) ∧ w'.cell? ⟨(ad270.add ((x5_1).toNat * 10)).block, (ad270.add ((x5_1).toNat * 10)).off + 8, none⟩ = some (.int .i64 ((J67 l0 x5_1).f3.f2)) ∧ w'.cell? ⟨(ad270.add ((x5_1).toNat * 10)).block, (ad270.add ((x5_1).toNat * 10)).off + 9, none⟩ = some (.slice A270_9 ((J67 l0 x5_1).f3.f3).length c270_9) ∧ w'.cell? (ad271.add ((x5_1).toNat * 10)) = some (.int .i64 ((J67 l1 x5_1).f0)) ∧ w'.cell? ⟨(ad271.add ((x5_1).toNat * 10)).block, (ad271.add ((x5_1).toNat * 10)).off + 1, none⟩ = some (.bool ((J67 l1 x5_1).f1)) ∧ w'.cell? ⟨(ad271.add ((x5_1).toNat * 10)).block, (ad271.add ((x5_1).toNat * 10)).off + 2, none⟩ = some (.int .i64 ((J67 l1 x5_1).f2.f0)) ∧ w'.cell? ⟨(ad271.add ((x5_1).toNat * 10)).block, (ad271.add ((x5_1).toNat * 10)).off + 3, none⟩ = some (.int .i64 ((J67 l1 x5_1).f2.f1)) ∧ w'.cell? ⟨(ad271.add ((x5_1).toNat * 10)).block, (ad271.add ((x5_1).toNat * 10)).off + 4, none⟩ = some (.int .i64 ((J67 l1 x5_1).f2.f2)) ∧ w'.cell? ⟨(ad271.add ((x5_1).toNat * 10)).block, (ad271.add ((x5_1).toNat * 10)).off + 5, none⟩ = some (.int .i64 ((J67 l1 x5_1).f2.f3)) ∧ w'.cell? ⟨(ad271.add ((x5_1).toNat * 10)).block, (ad271.add ((x5_1).toNat * 10)).off + 6, none⟩ = some (.bool ((J67 l1 x5_1).f3.f0)) ∧ w'.cell? ⟨(ad271.add ((x5_1).toNat * 10)).block, (ad271.add ((x5_1).toNat * 10)).off + 7, none⟩ = some (.int .i64 ((J67 l1 x5_1).f3.f1)) ∧ w'.cell? ⟨(ad271.add ((x5_1).toNat * 10)).block, (ad271.add ((x5_1).toNat * 10)).off + 8, none⟩ = some (.int .i64 ((J67 l1 x5_1).f3.f2)) ∧ w'.cell? ⟨(ad271.add ((x5_1).toNat * 10)).block, (ad271.add ((x5_1).toNat * 10)).off + 9, none⟩ = some (.slice A271_9 ((J67 l1 x5_1).f3.f3).length c271_9)) (ds := []) #[false,false,false,false,false,false,false,false,false,false] (by kernel_rfl) rfl rfl ⟨(skc HB.out hw270_0), (skc HB.out hw270_1), (skc HB.out hw270_2), (skc HB.out hw270_3), (skc HB.out hw270_4), (skc HB.out hw270_5), (skc HB.out hw270_6), (skc HB.out hw270_7), (skc HB.out hw270_8), (skc HB.out hw270_9), (skc HB.out hw271_0), (skc HB.out hw271_1), (skc HB.out hw271_2), (skc HB.out hw271_3), (skc HB.out hw271_4), (skc HB.out hw271_5), (skc HB.out hw271_6), (skc HB.out hw271_7), (skc HB.out hw271_8), (skc HB.out hw271_9)⟩ (fun hHeld => ?_); refine with_tabW larchref05_SameEvents.tab6 larchref05_SameEvents.bits6 (fun HT_ HW_ => ?_)
        generalize wr.drew = w11 at HB HR270_9 HR271_9 hx270_0 hx270_1 hx270_2 hx270_3 hx270_4 hx270_5 hx270_6 hx270_7 hx270_8 hx270_9 hx271_0 hx271_1 hx271_2 hx271_3 hx271_4 hx271_5 hx271_6 hx271_7 hx271_8 hx271_9 hHeld ⊢
        refine pure_ (i := 0) (N := some 17) (v := ?_) (a' := ?_) #[true,false,false,false,false,false,false,false,false,false] rfl rfl (aK HT_.out) (fun _ _ _ h => h) (Or.inl ⟨by rfl, ?_⟩) ?_ ?_
        rotate_left
        ·
         intro w'
         go_simp
         with_reducible rfl
        rotate_left
        ·
         simp only [Act.put, sp]
         rfl
        refine pure_ (i := 1) (N := some 18) (v := ?_) (a' := ?_) #[true,true,false,false,false,false,false,false,false,false] rfl rfl (aK HT_.out) (fun _ _ _ h => h) (Or.inl ⟨by rfl, ?_⟩) ?_ ?_
        rotate_left
        ·
         intro w'
         go_simp
         with_reducible rfl
        rotate_left
        ·
         simp only [Act.put, sp]
         rfl
        refine pure_ (i := 2) (N := some 19) (v := ?_) (a' := ?_) #[true,true,true,false,false,false,false,false,false,false] rfl rfl (aK HT_.out) (fun _ _ _ h => h) (Or.inl ⟨by rfl, ?_⟩) ?_ ?_
        rotate_left
        ·
         intro w'
         go_simp
         with_reducible rfl
        rotate_left
        ·
         simp only [Act.put, sp]
         rfl
        refine pure_ (i := 4) (N := some 21) (v := ?_) (a' := ?_) #[true,true,true,false,true,false,false,false,false,false] rfl rfl (aK HT_.out) (fun _ _ _ h => h) (Or.inl ⟨by rfl, ?_⟩) ?_ ?_
        rotate_left
        ·
         intro w'
         go_simp
         with_reducible rfl
        rotate_left
        ·
         simp only [Act.put, sp]
         rfl
        refine pure_ (i := 5) (N := some 22) (v := ?_) (a' := ?_) #[true,true,true,false,true,true,false,false,false,false] rfl rfl (aK HT_.out) (fun _ _ _ h => h) (Or.inl ⟨by rfl, ?_⟩) ?_ ?_
        rotate_left
        ·
         intro w'
         go_simp
         with_reducible rfl
        rotate_left
        ·
         simp only [Act.put, sp]
         rfl
        refine pure_ (i := 6) (N := some 23) (v := ?_) (a' := ?_) #[true,true,true,false,true,true,true,false,false,false] rfl rfl (aK HT_.out) (fun _ _ _ h => h) (Or.inl ⟨by rfl, ?_⟩) ?_ ?_
        rotate_left
        ·
         intro w'
         go_simp
         with_reducible rfl
        rotate_left
        ·
         simp only [Act.put, sp]
         rfl
        refine take_ (i := 3) (N := some 20) (v := ?_) (a' := ?_) #[true,true,true,true,true,true,true,false,false,false] rfl rfl (take_ofW HT_.out HW_.out (by kernel_rfl)) (fun _ _ _ h => h) (Or.inl ⟨by rfl, ?_⟩) hHeld ?_ ?_
        rotate_left
        ·
         rintro w' ⟨s0, s1, s2, s3, s4, s5, s6, s7, s8, s9, s10, s11, s12, s13, s14, s15, s16, s17, s18, s19⟩
         go_simp
         with_reducible rfl
        rotate_left
        ·
         simp only [Act.put, sp]
         rfl
        refine take_ (i := 7) (N := some 24) (v := ?_) (a' := ?_) #[true,true,true,true,true,true,true,true,false,false] rfl rfl (take_ofW HT_.out HW_.out (by kernel_rfl)) (fun _ _ _ h => h) (Or.inl ⟨by rfl, ?_⟩) hHeld ?_ ?_
        rotate_left
        ·
         rintro w' ⟨s0, s1, s2, s3, s4, s5, s6, s7, s8, s9, s10, s11, s12, s13, s14, s15, s16, s17, s18, s19⟩
         go_simp
         with_reducible rfl
        rotate_left
        ·
         simp only [Act.put, sp]
         rfl
        refine one_ (i := 8) (N := some 25) #[true,true,true,true,true,true,true,true,true,false] rfl rfl (one_of HT_.out (by kernel_rfl)) (by decide) (fun K hK => ?_)
        refine goes_ Try.func54 (by kernel_rfl) rfl #[.agg #[.int .i64 ((J67 l0 x5_1).f0), .bool ((J67 l0 x5_1).f1), .int .i64 ((J67 l0 x5_1).f2.f0), .int .i64 ((J67 l0 x5_1).f2.f1), .int .i64 ((J67 l0 x5_1).f2.f2), .int .i64 ((J67 l0 x5_1).f2.f3), .bool ((J67 l0 x5_1).f3.f0), .int .i64 ((J67 l0 x5_1).f3.f1), .int .i64 ((J67 l0 x5_1).f3.f2), .slice A270_9 ((J67 l0 x5_1).f3.f3).length c270_9], .agg #[.int .i64 ((J67 l1 x5_1).f0), .bool ((J67 l1 x5_1).f1), .int .i64 ((J67 l1 x5_1).f2.f0), .int .i64 ((J67 l1 x5_1).f2.f1), .int .i64 ((J67 l1 x5_1).f2.f2), .int .i64 ((J67 l1 x5_1).f2.f3), .bool ((J67 l1 x5_1).f3.f0), .int .i64 ((J67 l1 x5_1).f3.f1), .int .i64 ((J67 l1 x5_1).f3.f2), .slice A271_9 ((J67 l1 x5_1).f3.f3).length c271_9]] (by rfl) rfl rfl ags ?_
        with_reducible refine (larchref05_sameEvent.calls k1 ((J67 l0 x5_1).f0) ((J67 l0 x5_1).f1) ((J67 l0 x5_1).f2.f0) ((J67 l0 x5_1).f2.f1) ((J67 l0 x5_1).f2.f2) ((J67 l0 x5_1).f2.f3) ((J67 l0 x5_1).f3.f0) ((J67 l0 x5_1).f3.f1) ((J67 l0 x5_1).f3.f2) _ _ ((J67 l0 x5_1).f3.f3) ((J67 l1 x5_1).f0) ((J67 l1 x5_1).f1) ((J67 l1 x5_1).f2.f0) ((J67 l1 x5_1).f2.f1) ((J67 l1 x5_1).f2.f2) ((J67 l1 x5_1).f2.f3) ((J67 l1 x5_1).f3.f0) ((J67 l1 x5_1).f3.f1) ((J67 l1 x5_1).f3.f2) _ _ ((J67 l1 x5_1).f3.f3) false _ ?side1 ?side2 ?side3 ?side4 A7.out).mono ?_
        (case side1 => exact skC (Kd.C_below HR270_9.out HB.out))
        (case side2 => exact HC270_9.out)
        (case side3 => exact skC (Kd.C_below HR271_9.out HB.out))
        (case side4 => exact HC271_9.out)
        rintro e w12 ⟨rfl, hb⟩
        refine ⟨_, rfl, ?_⟩
        have n0_ := asd (below_step (skB HB.out) hb)
        clear HB
        have HB := n0_
        clear n0_
        (try clear hb)
        (try clear hb2)
        (try clear hk)
        (try clear hi)
        refine hK.out _ _ ⟨(skc HB.out hw270_0), (skc HB.out hw270_1), (skc HB.out hw270_2), (skc HB.out hw270_3), (skc HB.out hw270_4), (skc HB.out hw270_5), (skc HB.out hw270_6), (skc HB.out hw270_7), (skc HB.out hw270_8), (skc HB.out hw270_9), (skc HB.out hw271_0), (skc HB.out hw271_1), (skc HB.out hw271_2), (skc HB.out hw271_3), (skc HB.out hw271_4), (skc HB.out hw271_5), (skc HB.out hw271_6), (skc HB.out hw271_7), (skc HB.out hw271_8), (skc HB.out hw271_9)⟩ (fun hHeld => ?_)
        clear hK K
        refine norm_ (a' := ?_) ?_ ?_
        rotate_left
        ·
         show Act.put _ (some 25) _ = _
         simp only [Act.put, sp]
         rfl
        refine pure_ (i := 9) (N := some 26) (v := ?_) (a' := ?_) #[true,true,true,true,true,true,true,true,true,true] rfl rfl (aK HT_.out) (fun _ _ _ h => h) (Or.inl ⟨by rfl, ?_⟩) ?_ ?_
        rotate_left
        ·
         intro w'
         go_simp
         with_reducible rfl
        rotate_left
        ·
         simp only [Act.put, sp]
         rfl
        refine done_ (done_of HT_.out (by kernel_rfl)) ?_
        try go_wp2
        go_ret
        exact ⟨re, skB HB.out⟩
      ·
       rw [if_neg c6] at H
       exact absurd H (by simp)
     ·
      rw [if_neg c5] at H
      exact absurd H (by simp)
    ·
     rw [if_neg c4] at H
     have c4b0 : decide (x5_1 < (l0.length : Int)) = false := decide_eq_false c4
     clear c4
     obtain rfl := Option.some.inj H
     go_wp2
     go_ret
     exact ⟨re, skB HB.out⟩
 ·
  rw [if_neg c3] at H
  have c3b0 : ((l0.length : Int) == (l1.length : Int)) = false := beq_eq_false_iff_ne.mpr c3
  have c3b1 : ((l0.length : Int) != (l1.length : Int)) = true := bne_iff_ne.mpr c3
  have c3b2 : (l0.length == l1.length) = false := by first | simpa using c3 | (simp at c3 ⊢; omega)
  obtain rfl := Option.some.inj H
  go_enter Try.func29, Try.ntmps29
  go_wp2
  go_ret
  exact ⟨re, skB HB.out⟩
end Go.Proofs.Ytagdkmcgepidoaa.P
/- F33 -/
namespace Go.Proofs.Ytagdkmcgepidoaa.P
open Go.RowKit Go.Proofs.YtagdkmcgepidoaaW.PrintWords Go.Proofs.YtagdkmcgepidoaaW.PrintLast Go.Proofs.YtagdkmcgepidoaaW.PrintMore
attribute [local go_sem] max2_int min2_int max_two min_two max_three min_three max_four min_four   -- for this text's walks alone
set_option linter.unusedVariables false
set_option linter.unusedSimpArgs false
def larchref05_Of.l0 : Nat → List (S67) → Int → List (S67) → Int → Option ((List (S67)) × Int)
 | 0, _, _, _, _ => none
 | k + 1, x0, x1, x7, x8 => if x8 < (x0.length : Int) then (if 0 ≤ x8 then (if ((J67 x0 x8).f0) = x1 then (if x7.length < 1466015503701 then (larchref05_Of.l0 k x0 x1 (x7 ++ [(⟨(J67 x0 x8).f0, (J67 x0 x8).f1, (⟨(J67 x0 x8).f2.f0, (J67 x0 x8).f2.f1, (J67 x0 x8).f2.f2, (J67 x0 x8).f2.f3⟩ : S33), (⟨(J67 x0 x8).f3.f0, (J67 x0 x8).f3.f1, (J67 x0 x8).f3.f2, (J67 x0 x8).f3.f3⟩ : S36)⟩ : S67)]) (wrap64 (x8 + 1))) else (none)) else (larchref05_Of.l0 k x0 x1 x7 (wrap64 (x8 + 1)))) else (none)) else ((larchref05_CopyEvents.f k x7).bind fun t264 => (some (t264, 0)))
def larchref05_Of.f (k : Nat) (l0 : List (S67)) (a1 : Int) : Option ((List (S67)) × Int) := (larchref05_Check.f k l0).bind fun t258 => (if t258 = 0 then (larchref05_Of.l0 k l0 a1 ([] : List (S67)) 0) else (some (([] : List (S67)), t258)))
set_option maxHeartbeats 8000000 in
set_option maxRecDepth 100000 in
theorem larchref05_Of.calls (k : Nat) (P0_ : Nat → Prop) (A0 : Option Addr) (c0 : Nat) (l0 : List (S67)) (a1 : Int) (r1 : List (S67)) (r2 : Int) (w : World) (hs0 : Kd.V k67 67 w w.heap.size (fun k_ => P0_ k_) (.slice A0 l0.length c0) l0) (h : larchref05_Of.f k l0 a1 = some (r1, r2)) :
  Calls Try.prog 27 #[.slice A0 l0.length c0, .int .i64 a1] w fun e w' => ∃ v0_ : Value, e = .returned (.tuple #[v0_, .int .i64 r2]) ∧ Kd.N k67 67 w' w.heap.size (fun k_ => (P0_ k_ ∨ w.heap.size ≤ k_)) v0_ r1 ∧ Below w.heap.size w w' := by
 have hu67 := Try.underlying67
 have HO0 := asd (show Kd.V k67 67 w w.heap.size (fun k_ => (P0_ k_ ∨ w.heap.size ≤ k_)) (.slice A0 l0.length c0) l0 from Kd.V_mono hs0 (fun k_ hk => .inl hk))
 have HB := asd (Below.refl w.heap.size w)
 have H : ((larchref05_Check.f k l0).bind fun t258 => (if t258 = 0 then (larchref05_Of.l0 k l0 a1 ([] : List (S67)) 0) else (some (([] : List (S67)), t258)))) = some (r1, r2) := h
 clear h
 replace H := Option.bind_eq_some_iff.mp H
 obtain ⟨t258, A30, H⟩ := H
 replace H : (if t258 = 0 then (larchref05_Of.l0 k l0 a1 ([] : List (S67)) 0) else (some (([] : List (S67)), t258))) = some (r1, r2) := H
 have A3 := asd A30
 clear A30
 by_cases c4 : t258 = 0
 ·
  rw [if_pos c4] at H
  have c4b0 : (t258 == 0) = true := beq_iff_eq.mpr c4
  have c4b1 : (t258 != 0) = false := bne_eq_false_iff_eq.mpr c4
  clear c4
  have H' := asd H
  clear H
  go_enter Try.func27, Try.ntmps27
  go_wp2_with (first | ((with_reducible refine gate_callee (f := 37) rfl ?_); refine goesL_ (some 10) rfl rfl Try.func37 (by kernel_rfl) rfl #[.slice A0 l0.length c0] rfl ags ?_; (with_reducible refine (larchref05_Check.calls k _ _ l0 t258 _ ?side1 ?side2 A3.out).mono ?_); (case side1 => exact skC (Kd.V_reads' HO0.out).2.2); (case side2 => exact (Kd.V_reads' HO0.out).2.1); rintro e w5 ⟨rfl, hb⟩; refine ⟨_, rfl, ?_⟩; have n0_ := asd (Kd.V_below (by (with_reducible repeat (first | apply Kd.V_alloc | apply Kd.V_drewN | apply Kd.V_drew)); exact HO0.out) hb); have n1_ := asd (below_step (skB HB.out) hb); clear HO0; clear HB; have HO0 := n0_; have HB := n1_; clear n0_ n1_; (try clear hb); (try clear hb2); (try clear hk); (try clear hi)))
  go_loopg [7, 8] k (fun kq v7 v8 w' => ∃ (x7_1 : List (S67)) (x8_1 : Int), v8 = .int .i64 x8_1 ∧ Aside0 (larchref05_Of.l0 kq l0 a1 x7_1 x8_1 = some (r1, r2)) ∧ Aside0 (kq ≤ k) ∧ Aside0 (Kd.V k67 67 w' w.heap.size (fun k_ => (P0_ k_ ∨ w.heap.size ≤ k_) ∧ some k_ ≠ (v7 : Value).ownBlock) (.slice A0 l0.length c0) l0) ∧ Aside0 (Kd.N k67 67 w' w.heap.size (fun k_ => (P0_ k_ ∨ w.heap.size ≤ k_)) v7 x7_1) ∧ Aside0 (Below w.heap.size w w'))
  case atStart => exact ⟨(([] : List (S67))), (0), rs, H', ⟨Nat.le_refl _⟩, ⟨by (with_reducible repeat (first | apply Kd.V_alloc | apply Kd.V_drewN | apply Kd.V_drew)); exact Kd.V_mono HO0.out (fun _ hk => ⟨hk, (by simp [Value.ownBlock])⟩)⟩, ⟨by first | exact Kd.S_nil _ _ _ _ _ | exact Kd.N_nil _ _ _ _ _ | exact Kd.V_nil _ _ _ _ _ | exact Kd.Q_nil _ _ _ _ _ | exact Kd.R_nil _ _ _ _ _⟩, ⟨skB HB.out⟩⟩
  case round =>
   clear H'
   try clear c2
   try clear p2
   try clear c3
   try clear c4
   try clear c4b0
   try clear c4b1
   obtain ⟨x7_1, x8_1, rfl, HA, HK1, HO_0, HO_7, HB⟩ := hrel
   cases gk with
   | zero => exact absurd HA.out (by simp [larchref05_Of.l0])
   | succ k1 =>
    have H := HA.out
    clear HA
    simp only [larchref05_Of.l0] at H
    by_cases c6 : x8_1 < (l0.length : Int)
    ·
     rw [if_pos c6] at H
     have c6b0 : decide (x8_1 < (l0.length : Int)) = true := decide_eq_true c6
     clear c6
     by_cases c7 : 0 ≤ x8_1
     ·
      rw [if_pos c7] at H
      have c7b0 : decide (0 ≤ x8_1) = true := decide_eq_true c7
      clear c7
      by_cases c8 : ((J67 l0 x8_1).f0) = a1
      ·
       rw [if_pos c8] at H
       have c8b0 : (((J67 l0 x8_1).f0) == a1) = true := beq_iff_eq.mpr c8
       have c8b1 : (((J67 l0 x8_1).f0) != a1) = false := bne_eq_false_iff_eq.mpr c8
       clear c8
       by_cases c9 : x7_1.length < 1466015503701
       ·
        rw [if_pos c9] at H
        have LMc9 := asd c9
        clear c9
        obtain ⟨y261, hy261⟩ : ∃ y_ : List (S67), y_ = (x7_1 ++ [(⟨(J67 l0 x8_1).f0, (J67 l0 x8_1).f1, (⟨(J67 l0 x8_1).f2.f0, (J67 l0 x8_1).f2.f1, (J67 l0 x8_1).f2.f2, (J67 l0 x8_1).f2.f3⟩ : S33), (⟨(J67 l0 x8_1).f3.f0, (J67 l0 x8_1).f3.f1, (J67 l0 x8_1).f3.f2, (J67 l0 x8_1).f3.f3⟩ : S36)⟩ : S67)]) := ⟨_, rfl⟩
        replace H : (larchref05_Of.l0 k1 l0 a1 y261 (wrap64 (x8_1 + 1))) = some (r1, r2) := by first | (rw [hy261]; with_reducible exact H) | (have H2_ := (Option.bind_some _ _).symm.trans H; rw [hy261]; with_reducible exact H2_) | (have H2_ := (Option.bind_some _ _).symm.trans H; with_reducible exact H2_) | with_reducible exact H | (rw [hy261]; exact H) | exact H
        have Ny261 := asd hy261
        clear hy261
        have H' := asd H
        clear H
        have p259 : 0 ≤ (x8_1 : Int) := dt
        have q259 : x8_1 < (l0.length : Int) := dt
        obtain ⟨ad259, A259_9, c259_9, e259, hx259_0, hx259_1, hx259_2, hx259_3, hx259_4, hx259_5, hx259_6, hx259_7, hx259_8, hx259_9, hl259_9, hi259_9⟩ := at_T67 (Kd.V_reads' HO_0.out).2.2 x8_1 p259 q259
        cases e259
        obtain ⟨ce259, hce259, hMe259, hcc259⟩ := Kd.V_get HO_0.out z67 x8_1 p259 (by first | exact q259 | exact dt | (have e_ := (Kd.V_reads' HO_0.out).1; omega))
        obtain ⟨ua259_9, uc259_9, rfl, ul259_9, ge259_9⟩ := k67_openF hMe259
        have hv259_9 := hcc259 9 _ rfl
        rw [add_field _ _ 9 (by omega)] at hv259_9
        replace hv259_9 := Option.some.inj (hv259_9.symm.trans hx259_9)
        injection hv259_9 with hva_ hvn_ hvc_
        rw [hva_] at ge259_9
        rw [hvc_] at ul259_9
        have HL259_9 := asd (show Kd.V k70 70 _ w.heap.size _ _ ((J67 l0 x8_1).f3.f3) from Kd.V_mk ul259_9 ge259_9)
        clear hva_ hvn_ hvc_ ge259_9 ul259_9
        clear hcc259 hce259
        have HR259_9 := asd hi259_9
        have HC259_9 := asd hl259_9
        clear hi259_9 hl259_9
        replace p259 := eq_true p259
        replace q259 := eq_true q259
        have p260 : 0 ≤ (x8_1 : Int) := dt
        have q260 : x8_1 < (l0.length : Int) := dt
        obtain ⟨ad260, A260_9, c260_9, e260, hx260_0, hx260_1, hx260_2, hx260_3, hx260_4, hx260_5, hx260_6, hx260_7, hx260_8, hx260_9, hl260_9, hi260_9⟩ := at_T67 (Kd.V_reads' HO_0.out).2.2 x8_1 p260 q260
        obtain rfl : ad259 = ad260 := (by injection e260)
        obtain ⟨ce260, hce260, hMe260, hcc260⟩ := Kd.V_get HO_0.out z67 x8_1 p260 (by first | exact q260 | exact dt | (have e_ := (Kd.V_reads' HO_0.out).1; omega))
        obtain ⟨ua260_9, uc260_9, rfl, ul260_9, ge260_9⟩ := k67_openF hMe260
        have hv260_9 := hcc260 9 _ rfl
        rw [add_field _ _ 9 (by omega)] at hv260_9
        replace hv260_9 := Option.some.inj (hv260_9.symm.trans hx260_9)
        injection hv260_9 with hva_ hvn_ hvc_
        rw [hva_] at ge260_9
        rw [hvc_] at ul260_9
        have HL260_9 := asd (show Kd.V k70 70 _ w.heap.size _ _ ((J67 l0 x8_1).f3.f3) from Kd.V_mk ul260_9 ge260_9)
        clear hva_ hvn_ hvc_ ge260_9 ul260_9
        clear hcc260 hce260
        have HR260_9 := asd hi260_9
        have HC260_9 := asd hl260_9
        clear hi260_9 hl260_9
        replace p260 := eq_true p260
        replace q260 := eq_true q260
        have ea_ := Option.some.inj (hx259_9.symm.trans hx260_9)
        injection ea_ with ea_ en_ ec_
        subst ea_
        subst ec_
        clear en_
        go_wp2_with (first | ((with_reducible refine gate_builtin (b := .append) (xs := #[.tmp 27, .tmp 32]) rfl ?_); at_builtin; refine Kd.N_append k67 (w0 := w) w.heap.size rfl (.tmp 27) (.tmp 32) 22 67 (.agg #[(.int .i64 0), (.bool false), (.int .i64 0), (.int .i64 0), (.int .i64 0), (.int .i64 0), (.bool false), (.int .i64 0), (.int .i64 0), (.slice none 0 0)]) 96 rfl Try.underlying22 info67 rfl (by decide) (by omega) u7 x7_1 (⟨(J67 l0 x8_1).f0, (J67 l0 x8_1).f1, (⟨(J67 l0 x8_1).f2.f0, (J67 l0 x8_1).f2.f1, (J67 l0 x8_1).f2.f2, (J67 l0 x8_1).f2.f3⟩ : S33), (⟨(J67 l0 x8_1).f3.f0, (J67 l0 x8_1).f3.f1, (J67 l0 x8_1).f3.f2, (J67 l0 x8_1).f3.f3⟩ : S36)⟩ : S67) [.int .i64 ((J67 l0 x8_1).f0), .bool ((J67 l0 x8_1).f1), .int .i64 ((J67 l0 x8_1).f2.f0), .int .i64 ((J67 l0 x8_1).f2.f1), .int .i64 ((J67 l0 x8_1).f2.f2), .int .i64 ((J67 l0 x8_1).f2.f3), .bool ((J67 l0 x8_1).f3.f0), .int .i64 ((J67 l0 x8_1).f3.f1), .int .i64 ((J67 l0 x8_1).f3.f2), .slice A259_9 ((J67 l0 x8_1).f3.f3).length c259_9] (fun k_ => (P0_ k_ ∨ w.heap.size ≤ k_)) (fun k_ => ((fun k_ => (P0_ k_ ∨ w.heap.size ≤ k_))) k_ ∧ some k_ ≠ (u7 : Value).ownBlock) rfl rfl ?aP (fun _ hk => hk) ?aF ?aO ?aB ?aS ?aL ?_; (case aP => exact (k67_mkF _ _ (⟨(J67 l0 x8_1).f0, (J67 l0 x8_1).f1, (⟨(J67 l0 x8_1).f2.f0, (J67 l0 x8_1).f2.f1, (J67 l0 x8_1).f2.f2, (J67 l0 x8_1).f2.f3⟩ : S33), (⟨(J67 l0 x8_1).f3.f0, (J67 l0 x8_1).f3.f1, (J67 l0 x8_1).f3.f2, (J67 l0 x8_1).f3.f3⟩ : S36)⟩ : S67) (Kd.V_reads' (Kd.V_mono (ok' := (fun k_ => ((fun k_ => (P0_ k_ ∨ w.heap.size ≤ k_))) k_ ∧ some k_ ≠ (u7 : Value).ownBlock)) (HL260_9.out) (fun k_ hk => ⟨hk.1, hk.2⟩))).2.1 (Kd.V_F (Kd.V_mono (ok' := (fun k_ => ((fun k_ => (P0_ k_ ∨ w.heap.size ≤ k_))) k_ ∧ some k_ ≠ (u7 : Value).ownBlock)) (HL260_9.out) (fun k_ hk => ⟨hk.1, hk.2⟩))))); (case aB => exact (skB HB.out)); (case aF => exact (fun k_ hk => (.inr (Nat.le_trans (below_size (skB HB.out)) hk)))); (case aO => exact (by (with_reducible repeat (first | apply Kd.N_alloc | apply Kd.N_drewN | apply Kd.N_drew)); exact HO_7.out)); (case aS => exact (below_size (skB HB.out))); (case aL => have := LMc9.out; omega); intro v262 w10 ho hb hg hat; rw [← Ny261.out] at ho; have n0_ := asd (Kd.V_afterv (ok := (fun k_ => (P0_ k_ ∨ w.heap.size ≤ k_))) (by (with_reducible repeat (first | apply Kd.V_alloc | apply Kd.V_drewN | apply Kd.V_drew)); exact HO_0.out) hg hat); have n1_ := asd (Kd.V_afterv (ok := (fun k_ => (P0_ k_ ∨ w.heap.size ≤ k_))) (by (with_reducible repeat (first | apply Kd.V_alloc | apply Kd.V_drewN | apply Kd.V_drew)); exact HL259_9.out) hg hat); have n2_ := asd (Kd.V_afterv (ok := (fun k_ => (P0_ k_ ∨ w.heap.size ≤ k_))) (by (with_reducible repeat (first | apply Kd.V_alloc | apply Kd.V_drewN | apply Kd.V_drew)); exact HL260_9.out) hg hat); have n3_ := asd (hb); have n4_ := asd (ho); clear HO_0; clear HL259_9; clear HL260_9; clear HB; clear HO_7; have HO_0 := n0_; have HL259_9 := n1_; have HL260_9 := n2_; have HB := n3_; have HO263 := n4_; clear n0_ n1_ n2_ n3_ n4_; clear ho hb hg hat))
        go_roundg k1
        case measure => have := HK1.out; omega
        case rel => exact ⟨(y261), (wrap64 (x8_1 + 1)), rs, H', ⟨by have := HK1.out; omega⟩, ⟨by (with_reducible repeat (first | apply Kd.V_alloc | apply Kd.V_drewN | apply Kd.V_drew)); exact HO_0.out⟩, ⟨by (with_reducible repeat (first | apply Kd.N_alloc | apply Kd.N_drewN | apply Kd.N_drew)); exact HO263.out⟩, ⟨skB HB.out⟩⟩
       ·
        rw [if_neg c9] at H
        exact absurd H (by simp)
      ·
       rw [if_neg c8] at H
       have c8b0 : (((J67 l0 x8_1).f0) == a1) = false := beq_eq_false_iff_ne.mpr c8
       have c8b1 : (((J67 l0 x8_1).f0) != a1) = true := bne_iff_ne.mpr c8
       have H' := asd H
       clear H
       have p259 : 0 ≤ (x8_1 : Int) := dt
       have q259 : x8_1 < (l0.length : Int) := dt
       obtain ⟨ad259, A259_9, c259_9, e259, hx259_0, hx259_1, hx259_2, hx259_3, hx259_4, hx259_5, hx259_6, hx259_7, hx259_8, hx259_9, hl259_9, hi259_9⟩ := at_T67 (Kd.V_reads' HO_0.out).2.2 x8_1 p259 q259
       cases e259
       obtain ⟨ce259, hce259, hMe259, hcc259⟩ := Kd.V_get HO_0.out z67 x8_1 p259 (by first | exact q259 | exact dt | (have e_ := (Kd.V_reads' HO_0.out).1; omega))
       obtain ⟨ua259_9, uc259_9, rfl, ul259_9, ge259_9⟩ := k67_openF hMe259
       have hv259_9 := hcc259 9 _ rfl
       rw [add_field _ _ 9 (by omega)] at hv259_9
       replace hv259_9 := Option.some.inj (hv259_9.symm.trans hx259_9)
       injection hv259_9 with hva_ hvn_ hvc_
       rw [hva_] at ge259_9
       rw [hvc_] at ul259_9
       have HL259_9 := asd (show Kd.V k70 70 _ w.heap.size _ _ ((J67 l0 x8_1).f3.f3) from Kd.V_mk ul259_9 ge259_9)
       clear hva_ hvn_ hvc_ ge259_9 ul259_9
       clear hcc259 hce259
       have HR259_9 := asd hi259_9
       have HC259_9 := asd hl259_9
       clear hi259_9 hl259_9
       replace p259 := eq_true p259
       replace q259 := eq_true q259
       go_wp2
       go_roundg k1
       case measure => have := HK1.out; omega
       case rel => exact ⟨(x7_1), (wrap64 (x8_1 + 1)), rs, H', ⟨by have := HK1.out; omega⟩, ⟨by (with_reducible repeat (first | apply Kd.V_alloc | apply Kd.V_drewN | apply Kd.V_drew)); exact HO_0.out⟩, ⟨by (with_reducible repeat (first | apply Kd.N_alloc | apply Kd.N_drewN | apply Kd.N_drew)); exact HO_7.out⟩, ⟨skB HB.out⟩⟩
     ·
      rw [if_neg c7] at H
      exact absurd H (by simp)
    ·
     rw [if_neg c6] at H
     have c6b0 : decide (x8_1 < (l0.length : Int)) = false := decide_eq_false c6
     clear c6
     replace H := Option.bind_eq_some_iff.mp H
     obtain ⟨t264, A110, H⟩ := H
     replace H : (some (t264, 0)) = some (r1, r2) := H
     have A11 := asd A110
     clear A110
     simp only [Option.some.injEq, Prod.mk.injEq] at H
     obtain ⟨rfl, rfl⟩ := H
     obtain ⟨Ao12, co12, eo12⟩ := Kd.N_slice HO_7.out
     subst eo12
     go_wp2_with (first | ((with_reducible refine gate_callee (f := 43) rfl ?_); refine goesL_ (some 35) rfl rfl Try.func43 (by kernel_rfl) rfl #[.slice Ao12 x7_1.length co12] rfl ags ?_; (with_reducible refine (larchref05_CopyEvents.calls k1 _ _ x7_1 t264 _ ?side1 ?side2 A11.out).mono ?_); (case side1 => exact skC (Kd.N_reads' HO_7.out).2.2); (case side2 => exact (Kd.N_reads' HO_7.out).2.1); rintro e w13 ⟨v265, rfl, ho0, hb⟩; refine ⟨_, rfl, ?_⟩; have n0_ := asd (Kd.V_elder' (by (with_reducible repeat (first | apply Kd.V_alloc | apply Kd.V_drewN | apply Kd.V_drew)); exact HO_0.out) (Kd.S_base ho0) hb); have n1_ := asd (Kd.N_elder' (by (with_reducible repeat (first | apply Kd.N_alloc | apply Kd.N_drewN | apply Kd.N_drew)); exact HO_7.out) (Kd.S_base ho0) hb); have n2_ := asd (Kd.N_lower (Kd.N_mono (ok' := fun k_ => (P0_ k_ ∨ w.heap.size ≤ k_) ∧ some k_ ≠ (.slice Ao12 x7_1.length co12 : Value).ownBlock) (Kd.S_N (Kd.S_bound ho0)) (fun k_ hk_ => ⟨(.inr (Nat.le_trans (below_size (skB HB.out)) hk_.2.1)), (Kd.fresh' (Kd.N_lt (by (with_reducible repeat (first | apply Kd.N_alloc | apply Kd.N_drewN | apply Kd.N_drew)); exact HO_7.out)) k_ hk_.2.1)⟩)) (below_size (skB HB.out))); have n3_ := asd (below_step (skB HB.out) hb); clear HO_0; clear HO_7; clear HB; have HO_0 := n0_; have HO_7 := n1_; have HO266 := n2_; have HB := n3_; clear n0_ n1_ n2_ n3_; (try clear hb); (try clear hb2); (try clear hk); (try clear hi); (try clear ho0)))
     go_ret2
     exact ⟨_, re, by (with_reducible repeat (first | apply Kd.N_alloc | apply Kd.N_drewN | apply Kd.N_drew)); exact Kd.N_mono HO266.out (fun _ hk => hk.1), skB HB.out⟩
 ·
  rw [if_neg c4] at H
  have c4b0 : (t258 == 0) = false := beq_eq_false_iff_ne.mpr c4
  have c4b1 : (t258 != 0) = true := bne_iff_ne.mpr c4
  simp only [Option.some.injEq, Prod.mk.injEq] at H
  obtain ⟨rfl, rfl⟩ := H
  go_enter Try.func27, Try.ntmps27
  go_wp2_with (first | ((with_reducible refine gate_callee (f := 37) rfl ?_); refine goesL_ (some 10) rfl rfl Try.func37 (by kernel_rfl) rfl #[.slice A0 l0.length c0] rfl ags ?_; (with_reducible refine (larchref05_Check.calls k _ _ l0 t258 _ ?side1 ?side2 A3.out).mono ?_); (case side1 => exact skC (Kd.V_reads' HO0.out).2.2); (case side2 => exact (Kd.V_reads' HO0.out).2.1); rintro e w14 ⟨rfl, hb⟩; refine ⟨_, rfl, ?_⟩; have n0_ := asd (Kd.V_below (by (with_reducible repeat (first | apply Kd.V_alloc | apply Kd.V_drewN | apply Kd.V_drew)); exact HO0.out) hb); have n1_ := asd (below_step (skB HB.out) hb); clear HO0; clear HB; have HO0 := n0_; have HB := n1_; clear n0_ n1_; (try clear hb); (try clear hb2); (try clear hk); (try clear hi)))
  go_ret2
  exact ⟨_, re, by first | exact Kd.S_nil _ _ _ _ _ | exact Kd.N_nil _ _ _ _ _ | exact Kd.V_nil _ _ _ _ _ | exact Kd.Q_nil _ _ _ _ _ | exact Kd.R_nil _ _ _ _ _, skB HB.out⟩
end Go.Proofs.Ytagdkmcgepidoaa.P
