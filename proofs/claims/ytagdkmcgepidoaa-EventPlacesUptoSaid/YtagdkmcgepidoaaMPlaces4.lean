/- P.eventPlaces_holds, part 5 of 19: the contracts of the Go functions that the law calls, its own walk, and its plain law, for every input that the statement speaks of. -/
import Derived.Test.YtagdkmcgepidoaaMPlaces2
import Derived.Test.YtagdkmcgepidoaaMPlaces3
import Derived.Test.YtagdkmcgepidoaaMPlaces1
set_option linter.unusedVariables false
set_option linter.unusedSimpArgs false
/- F22 -/
namespace Go.Proofs.Ytagdkmcgepidoaa.P
open Go.RowKit Go.Proofs.YtagdkmcgepidoaaW.PrintWords Go.Proofs.YtagdkmcgepidoaaW.PrintLast Go.Proofs.YtagdkmcgepidoaaW.PrintMore
attribute [local go_sem] max2_int min2_int max_two min_two max_three min_three max_four min_four   -- for this text's walks alone
set_option linter.unusedVariables false
set_option linter.unusedSimpArgs false
def larchref05_calls.l0 : Nat → List (S67) → List (S76) → List Int → Int → Option ((List (S76)))
 | 0, _, _, _, _ => none
 | k + 1, x0, x3, x4, x5 => if x5 < (x0.length : Int) then (if 0 ≤ x5 then (if ((J67 x0 x5).f1 = true) then (if 0 ≤ ((J67 x0 x5).f0) then (if ((J67 x0 x5).f0) < (x4.length : Int) then (if 0 ≤ (rd x4 ((J67 x0 x5).f0)) then (if (rd x4 ((J67 x0 x5).f0)) < (x3.length : Int) then ((some (x3.set ((rd x4 ((J67 x0 x5).f0)) : Int).toNat (⟨(J76 x3 (rd x4 ((J67 x0 x5).f0))).f0, (⟨(J76 x3 (rd x4 ((J67 x0 x5).f0))).f1.f0, (J76 x3 (rd x4 ((J67 x0 x5).f0))).f1.f1, (J76 x3 (rd x4 ((J67 x0 x5).f0))).f1.f2, (J76 x3 (rd x4 ((J67 x0 x5).f0))).f1.f3⟩ : S33), (⟨(J76 x3 (rd x4 ((J67 x0 x5).f0))).f2.f0, (J76 x3 (rd x4 ((J67 x0 x5).f0))).f2.f1, (J76 x3 (rd x4 ((J67 x0 x5).f0))).f2.f2, (J76 x3 (rd x4 ((J67 x0 x5).f0))).f2.f3⟩ : S36), (J76 x3 (rd x4 ((J67 x0 x5).f0))).f3, x5⟩ : S76) : List (S76))).bind fun y174 => ((larchref05_CopyRet.f ((J67 x0 x5).f3.f0) ((J67 x0 x5).f3.f1) ((J67 x0 x5).f3.f2) ((J67 x0 x5).f3.f3)).bind fun bt176 => (larchref05_calls.l0 k x0 (y174.set ((rd x4 ((J67 x0 x5).f0)) : Int).toNat (⟨(J76 y174 (rd x4 ((J67 x0 x5).f0))).f0, (⟨(J76 y174 (rd x4 ((J67 x0 x5).f0))).f1.f0, (J76 y174 (rd x4 ((J67 x0 x5).f0))).f1.f1, (J76 y174 (rd x4 ((J67 x0 x5).f0))).f1.f2, (J76 y174 (rd x4 ((J67 x0 x5).f0))).f1.f3⟩ : S33), (⟨bt176.1, bt176.2.1, bt176.2.2.1, bt176.2.2.2⟩ : S36), (J76 y174 (rd x4 ((J67 x0 x5).f0))).f3, (J76 y174 (rd x4 ((J67 x0 x5).f0))).f4⟩ : S76)) x4 (wrap64 (x5 + 1))))) else (none)) else (none)) else (none)) else (none)) else (if 0 ≤ ((J67 x0 x5).f0) then (if ((J67 x0 x5).f0) < (x4.length : Int) then (if x3.length < 1353245080339 then (larchref05_calls.l0 k x0 (x3 ++ [(⟨(J67 x0 x5).f0, (⟨(J67 x0 x5).f2.f0, (J67 x0 x5).f2.f1, (J67 x0 x5).f2.f2, (J67 x0 x5).f2.f3⟩ : S33), (⟨false, 0, 0, ([] : List (S70))⟩ : S36), x5, (-1)⟩ : S76)]) (x4.set (((J67 x0 x5).f0) : Int).toNat (x3.length : Int)) (wrap64 (x5 + 1))) else (none)) else (none)) else (none))) else (none)) else (some x3)
def larchref05_calls.f (k : Nat) (l0 : List (S67)) : Option ((List (S76))) := if 64 ≤ 35184372088832 then (larchref05_calls.l0 k l0 ([] : List (S76)) (List.replicate 64 0) 0) else (none)
def larchref05_calls.T8 : Bool × List (List Nat × List Nat) := (true, [([], []), ([], []), ([], []), ([1, 2], [1, 2]), ([3], [3]), ([4], [4]), ([], []), ([], []), ([6, 7], [6, 7]), ([8], [8]), ([9], [9]), ([], []), ([5, 10, 11], [5, 10, 11]), ([12], [12]), ([0, 13], [0, 13]), ([14, 14, 0, 1, 2, 3, 4, 5, 6, 7, 8, 9, 10, 11, 12, 13, 14], [0, 14])])
def larchref05_calls.B8 : List Nat := [0, 0, 0, 6, 14, 30, 0, 0, 192, 448, 960, 0, 4094, 8190, 16383, 32767]
theorem larchref05_calls.tab8 : rtab .any (opsOf Try.f64 8) = larchref05_calls.T8 := by kernel_rfl
theorem larchref05_calls.bits8 : waitsOk larchref05_calls.T8.2 larchref05_calls.B8 = true := by kernel_rfl
set_option maxHeartbeats 8000000 in
set_option maxRecDepth 100000 in
theorem larchref05_calls.calls (k : Nat) (A0 : Option Addr) (c0 : Nat) (l0 : List (S67)) (r : List (S76)) (w : World) (hr0 : Kd.C k67 w A0 l0.length l0) (hc0 : l0.length ≤ c0) (h : larchref05_calls.f k l0 = some r) :
  Calls Try.prog 64 #[.slice A0 l0.length c0] w fun e w' => ∃ v0_ : Value, e = .returned (v0_) ∧ Kd.S k76 76 w' w.heap.size (fun _ => True) v0_ r ∧ Below w.heap.size w w' := by
 have hu33 := Try.underlying33
 have hu76 := Try.underlying76
 have hu36 := Try.underlying36
 have HR0 := asd hr0
 have HC0 := asd hc0
 clear hr0 hc0
 have HB := asd (Below.refl w.heap.size w)
 have H : (if 64 ≤ 35184372088832 then (larchref05_calls.l0 k l0 ([] : List (S76)) (List.replicate 64 0) 0) else (none)) = some r := h
 clear h
 by_cases c2 : 64 ≤ 35184372088832
 ·
  rw [if_pos c2] at H
  have c2b0 := eq_true c2
  have c2b1 : decide (64 ≤ 35184372088832) = true := decide_eq_true c2
  clear c2
  obtain ⟨y168, hy168⟩ : ∃ y_ : List Int, y_ = (List.replicate 64 0) := ⟨_, rfl⟩
  replace H : (larchref05_calls.l0 k l0 ([] : List (S76)) y168 0) = some r := by first | (rw [hy168]; with_reducible exact H) | (have H2_ := (Option.bind_some _ _).symm.trans H; rw [hy168]; with_reducible exact H2_) | (have H2_ := (Option.bind_some _ _).symm.trans H; with_reducible exact H2_) | with_reducible exact H | (rw [hy168]; exact H) | exact H
  have Ny168 := asd hy168
  clear hy168
  have H' := asd H
  clear H
  go_enter Try.func64, Try.ntmps64
  go_wp2_with (first | ((with_reducible refine gate_dst (N := 7) rfl ?_); refine Kd.R_make (Kd.int .i64) _ 3 rfl (N := 7) rfl 41 _ _ rfl 64 rfl rfl Try.underlying41 (.int .i64 0) 8 info3 rfl (by decide) (by omega) 0 (ok := fun _ => True) (okp := fun _ => True) rfl (fun _ hk => hk) trivial (by omega) (by omega) (Below.refl _ _) (Nat.le_refl _) ?_; intro v169 w3 ho4 hb hg_ hnew_; clear hg_ hnew_; (first | rw [← Ny168.out] at ho4 | (simp only [Int.reduceToNat] at ho4; rw [← Ny168.out] at ho4)); have n0_ := asd (Kd.R_lower ho4 (below_size (skB HB.out))); have n1_ := asd (below_step (skB HB.out) hb); clear HB; have HO170 := n0_; have HB := n1_; clear n0_ n1_; clear hb ho4))
  go_loopg [3, 5] k (fun kq v3 v5 w' => ∃ (x3_1 : List (S76)) (x4_1 : List Int) (x5_1 : Int), v5 = .int .i64 x5_1 ∧ Aside0 (larchref05_calls.l0 kq l0 x3_1 x4_1 x5_1 = some r) ∧ Aside0 (kq ≤ k) ∧ Aside0 (Kd.S k76 76 w' w.heap.size (fun _ => True) v3 x3_1) ∧ Aside0 (Kd.R (Kd.int .i64) 3 w' w.heap.size (fun _ => True) v169 x4_1) ∧ Aside0 (Below w.heap.size w w'))
  case atStart => exact ⟨(([] : List (S76))), (y168), (0), rs, H', ⟨Nat.le_refl _⟩, ⟨by first | exact Kd.S_nil _ _ _ _ _ | exact Kd.N_nil _ _ _ _ _ | exact Kd.V_nil _ _ _ _ _ | exact Kd.Q_nil _ _ _ _ _ | exact Kd.R_nil _ _ _ _ _⟩, ⟨skR HO170.out⟩, ⟨skB HB.out⟩⟩
  case round =>
   clear H'
   try clear c2
   try clear c2b0
   try clear c2b1
   try clear p2
   obtain ⟨x3_1, x4_1, x5_1, rfl, HA, HK1, HO_3, HO_4, HB⟩ := hrel
   cases gk with
   | zero => exact absurd HA.out (by simp [larchref05_calls.l0])
   | succ k1 =>
    have H := HA.out
    clear HA
    simp only [larchref05_calls.l0] at H
    by_cases c5 : x5_1 < (l0.length : Int)
    ·
     rw [if_pos c5] at H
     have c5b0 : decide (x5_1 < (l0.length : Int)) = true := decide_eq_true c5
     clear c5
     by_cases c6 : 0 ≤ x5_1
     ·
      rw [if_pos c6] at H
      have c6b0 : decide (0 ≤ x5_1) = true := decide_eq_true c6
      clear c6
      obtain ⟨bq7, hbq7⟩ : ∃ b_ : Bool, b_ = ((J67 l0 x5_1).f1) := ⟨_, rfl⟩
      replace H : (if (bq7 = true) then (if 0 ≤ ((J67 l0 x5_1).f0) then (if ((J67 l0 x5_1).f0) < (x4_1.length : Int) then (if 0 ≤ (rd x4_1 ((J67 l0 x5_1).f0)) then (if (rd x4_1 ((J67 l0 x5_1).f0)) < (x3_1.length : Int) then ((some (x3_1.set ((rd x4_1 ((J67 l0 x5_1).f0)) : Int).toNat (⟨(J76 x3_1 (rd x4_1 ((J67 l0 x5_1).f0))).f0, (⟨(J76 x3_1 (rd x4_1 ((J67 l0 x5_1).f0))).f1.f0, (J76 x3_1 (rd x4_1 ((J67 l0 x5_1).f0))).f1.f1, (J76 x3_1 (rd x4_1 ((J67 l0 x5_1).f0))).f1.f2, (J76 x3_1 (rd x4_1 ((J67 l0 x5_1).f0))).f1.f3⟩ : S33), (⟨(J76 x3_1 (rd x4_1 ((J67 l0 x5_1).f0))).f2.f0, (J76 x3_1 (rd x4_1 ((J67 l0 x5_1).f0))).f2.f1, (J76 x3_1 (rd x4_1 ((J67 l0 x5_1).f0))).f2.f2, (J76 x3_1 (rd x4_1 ((J67 l0 x5_1).f0))).f2.f3⟩ : S36), (J76 x3_1 (rd x4_1 ((J67 l0 x5_1).f0))).f3, x5_1⟩ : S76) : List (S76))).bind fun y174 => ((larchref05_CopyRet.f ((J67 l0 x5_1).f3.f0) ((J67 l0 x5_1).f3.f1) ((J67 l0 x5_1).f3.f2) ((J67 l0 x5_1).f3.f3)).bind fun bt176 => (larchref05_calls.l0 k1 l0 (y174.set ((rd x4_1 ((J67 l0 x5_1).f0)) : Int).toNat (⟨(J76 y174 (rd x4_1 ((J67 l0 x5_1).f0))).f0, (⟨(J76 y174 (rd x4_1 ((J67 l0 x5_1).f0))).f1.f0, (J76 y174 (rd x4_1 ((J67 l0 x5_1).f0))).f1.f1, (J76 y174 (rd x4_1 ((J67 l0 x5_1).f0))).f1.f2, (J76 y174 (rd x4_1 ((J67 l0 x5_1).f0))).f1.f3⟩ : S33), (⟨bt176.1, bt176.2.1, bt176.2.2.1, bt176.2.2.2⟩ : S36), (J76 y174 (rd x4_1 ((J67 l0 x5_1).f0))).f3, (J76 y174 (rd x4_1 ((J67 l0 x5_1).f0))).f4⟩ : S76)) x4_1 (wrap64 (x5_1 + 1))))) else (none)) else (none)) else (none)) else (none)) else (if 0 ≤ ((J67 l0 x5_1).f0) then (if ((J67 l0 x5_1).f0) < (x4_1.length : Int) then (if x3_1.length < 1353245080339 then (larchref05_calls.l0 k1 l0 (x3_1 ++ [(⟨(J67 l0 x5_1).f0, (⟨(J67 l0 x5_1).f2.f0, (J67 l0 x5_1).f2.f1, (J67 l0 x5_1).f2.f2, (J67 l0 x5_1).f2.f3⟩ : S33), (⟨false, 0, 0, ([] : List (S70))⟩ : S36), x5_1, (-1)⟩ : S76)]) (x4_1.set (((J67 l0 x5_1).f0) : Int).toNat (x3_1.length : Int)) (wrap64 (x5_1 + 1))) else (none)) else (none)) else (none))) = some r := by rw [← hbq7] at H; exact H
      have Nbq7 := asd hbq7
      clear hbq7
      by_cases c8 : (bq7 = true)
      ·
       subst c8
       have H1 : (if 0 ≤ ((J67 l0 x5_1).f0) then (if ((J67 l0 x5_1).f0) < (x4_1.length : Int) then (if 0 ≤ (rd x4_1 ((J67 l0 x5_1).f0)) then (if (rd x4_1 ((J67 l0 x5_1).f0)) < (x3_1.length : Int) then ((some (x3_1.set ((rd x4_1 ((J67 l0 x5_1).f0)) : Int).toNat (⟨(J76 x3_1 (rd x4_1 ((J67 l0 x5_1).f0))).f0, (⟨(J76 x3_1 (rd x4_1 ((J67 l0 x5_1).f0))).f1.f0, (J76 x3_1 (rd x4_1 ((J67 l0 x5_1).f0))).f1.f1, (J76 x3_1 (rd x4_1 ((J67 l0 x5_1).f0))).f1.f2, (J76 x3_1 (rd x4_1 ((J67 l0 x5_1).f0))).f1.f3⟩ : S33), (⟨(J76 x3_1 (rd x4_1 ((J67 l0 x5_1).f0))).f2.f0, (J76 x3_1 (rd x4_1 ((J67 l0 x5_1).f0))).f2.f1, (J76 x3_1 (rd x4_1 ((J67 l0 x5_1).f0))).f2.f2, (J76 x3_1 (rd x4_1 ((J67 l0 x5_1).f0))).f2.f3⟩ : S36), (J76 x3_1 (rd x4_1 ((J67 l0 x5_1).f0))).f3, x5_1⟩ : S76) : List (S76))).bind fun y174 => ((larchref05_CopyRet.f ((J67 l0 x5_1).f3.f0) ((J67 l0 x5_1).f3.f1) ((J67 l0 x5_1).f3.f2) ((J67 l0 x5_1).f3.f3)).bind fun bt176 => (larchref05_calls.l0 k1 l0 (y174.set ((rd x4_1 ((J67 l0 x5_1).f0)) : Int).toNat (⟨(J76 y174 (rd x4_1 ((J67 l0 x5_1).f0))).f0, (⟨(J76 y174 (rd x4_1 ((J67 l0 x5_1).f0))).f1.f0, (J76 y174 (rd x4_1 ((J67 l0 x5_1).f0))).f1.f1, (J76 y174 (rd x4_1 ((J67 l0 x5_1).f0))).f1.f2, (J76 y174 (rd x4_1 ((J67 l0 x5_1).f0))).f1.f3⟩ : S33), (⟨bt176.1, bt176.2.1, bt176.2.2.1, bt176.2.2.2⟩ : S36), (J76 y174 (rd x4_1 ((J67 l0 x5_1).f0))).f3, (J76 y174 (rd x4_1 ((J67 l0 x5_1).f0))).f4⟩ : S76)) x4_1 (wrap64 (x5_1 + 1))))) else (none)) else (none)) else (none)) else (none)) = some r := by rw [if_pos rfl] at H; exact H
       clear H
       have H := H1
       clear H1
       by_cases c9 : 0 ≤ ((J67 l0 x5_1).f0)
       ·
        rw [if_pos c9] at H
        have c9b0 : decide (0 ≤ ((J67 l0 x5_1).f0)) = true := decide_eq_true c9
        clear c9
        by_cases c10 : ((J67 l0 x5_1).f0) < (x4_1.length : Int)
        ·
         rw [if_pos c10] at H
         have c10b0 : decide (((J67 l0 x5_1).f0) < (x4_1.length : Int)) = true := decide_eq_true c10
         clear c10
         by_cases c11 : 0 ≤ (rd x4_1 ((J67 l0 x5_1).f0))
         ·
          rw [if_pos c11] at H
          have c11b0 : decide (0 ≤ (rd x4_1 ((J67 l0 x5_1).f0))) = true := decide_eq_true c11
          clear c11
          by_cases c12 : (rd x4_1 ((J67 l0 x5_1).f0)) < (x3_1.length : Int)
          ·
           rw [if_pos c12] at H
           have c12b0 : decide ((rd x4_1 ((J67 l0 x5_1).f0)) < (x3_1.length : Int)) = true := decide_eq_true c12
           clear c12
           obtain ⟨y174, hy174⟩ : ∃ y_ : List (S76), y_ = (x3_1.set ((rd x4_1 ((J67 l0 x5_1).f0)) : Int).toNat (⟨(J76 x3_1 (rd x4_1 ((J67 l0 x5_1).f0))).f0, (⟨(J76 x3_1 (rd x4_1 ((J67 l0 x5_1).f0))).f1.f0, (J76 x3_1 (rd x4_1 ((J67 l0 x5_1).f0))).f1.f1, (J76 x3_1 (rd x4_1 ((J67 l0 x5_1).f0))).f1.f2, (J76 x3_1 (rd x4_1 ((J67 l0 x5_1).f0))).f1.f3⟩ : S33), (⟨(J76 x3_1 (rd x4_1 ((J67 l0 x5_1).f0))).f2.f0, (J76 x3_1 (rd x4_1 ((J67 l0 x5_1).f0))).f2.f1, (J76 x3_1 (rd x4_1 ((J67 l0 x5_1).f0))).f2.f2, (J76 x3_1 (rd x4_1 ((J67 l0 x5_1).f0))).f2.f3⟩ : S36), (J76 x3_1 (rd x4_1 ((J67 l0 x5_1).f0))).f3, x5_1⟩ : S76)) := ⟨_, rfl⟩
           replace H : ((larchref05_CopyRet.f ((J67 l0 x5_1).f3.f0) ((J67 l0 x5_1).f3.f1) ((J67 l0 x5_1).f3.f2) ((J67 l0 x5_1).f3.f3)).bind fun bt176 => (larchref05_calls.l0 k1 l0 (y174.set ((rd x4_1 ((J67 l0 x5_1).f0)) : Int).toNat (⟨(J76 y174 (rd x4_1 ((J67 l0 x5_1).f0))).f0, (⟨(J76 y174 (rd x4_1 ((J67 l0 x5_1).f0))).f1.f0, (J76 y174 (rd x4_1 ((J67 l0 x5_1).f0))).f1.f1, (J76 y174 (rd x4_1 ((J67 l0 x5_1).f0))).f1.f2, (J76 y174 (rd x4_1 ((J67 l0 x5_1).f0))).f1.f3⟩ : S33), (⟨bt176.1, bt176.2.1, bt176.2.2.1, bt176.2.2.2⟩ : S36), (J76 y174 (rd x4_1 ((J67 l0 x5_1).f0))).f3, (J76 y174 (rd x4_1 ((J67 l0 x5_1).f0))).f4⟩ : S76)) x4_1 (wrap64 (x5_1 + 1)))) = some r := by first | (rw [hy174]; with_reducible exact H) | (have H2_ := (Option.bind_some _ _).symm.trans H; rw [hy174]; with_reducible exact H2_) | (have H2_ := (Option.bind_some _ _).symm.trans H; with_reducible exact H2_) | with_reducible exact H | (rw [hy174]; exact H) | exact H
           have Ny174 := asd hy174
           clear hy174
           replace H := Option.bind_eq_some_iff.mp H
           obtain ⟨⟨t176, t177, t178, t179⟩, A140, H⟩ := H
           replace H : (larchref05_calls.l0 k1 l0 (y174.set ((rd x4_1 ((J67 l0 x5_1).f0)) : Int).toNat (⟨(J76 y174 (rd x4_1 ((J67 l0 x5_1).f0))).f0, (⟨(J76 y174 (rd x4_1 ((J67 l0 x5_1).f0))).f1.f0, (J76 y174 (rd x4_1 ((J67 l0 x5_1).f0))).f1.f1, (J76 y174 (rd x4_1 ((J67 l0 x5_1).f0))).f1.f2, (J76 y174 (rd x4_1 ((J67 l0 x5_1).f0))).f1.f3⟩ : S33), (⟨t176, t177, t178, t179⟩ : S36), (J76 y174 (rd x4_1 ((J67 l0 x5_1).f0))).f3, (J76 y174 (rd x4_1 ((J67 l0 x5_1).f0))).f4⟩ : S76)) x4_1 (wrap64 (x5_1 + 1))) = some r := H
           have A14 := asd A140
           clear A140
           obtain ⟨y182, hy182⟩ : ∃ y_ : List (S76), y_ = (y174.set ((rd x4_1 ((J67 l0 x5_1).f0)) : Int).toNat (⟨(J76 y174 (rd x4_1 ((J67 l0 x5_1).f0))).f0, (⟨(J76 y174 (rd x4_1 ((J67 l0 x5_1).f0))).f1.f0, (J76 y174 (rd x4_1 ((J67 l0 x5_1).f0))).f1.f1, (J76 y174 (rd x4_1 ((J67 l0 x5_1).f0))).f1.f2, (J76 y174 (rd x4_1 ((J67 l0 x5_1).f0))).f1.f3⟩ : S33), (⟨t176, t177, t178, t179⟩ : S36), (J76 y174 (rd x4_1 ((J67 l0 x5_1).f0))).f3, (J76 y174 (rd x4_1 ((J67 l0 x5_1).f0))).f4⟩ : S76)) := ⟨_, rfl⟩
           replace H : (larchref05_calls.l0 k1 l0 y182 x4_1 (wrap64 (x5_1 + 1))) = some r := by first | (rw [hy182]; with_reducible exact H) | (have H2_ := (Option.bind_some _ _).symm.trans H; rw [hy182]; with_reducible exact H2_) | (have H2_ := (Option.bind_some _ _).symm.trans H; with_reducible exact H2_) | with_reducible exact H | (rw [hy182]; exact H) | exact H
           have Ny182 := asd hy182
           clear hy182
           have H' := asd H
           clear H
           have p171 : 0 ≤ (x5_1 : Int) := dt
           have q171 : x5_1 < (l0.length : Int) := dt
           obtain ⟨ad171, A171_9, c171_9, e171, hx171_0, hx171_1, hx171_2, hx171_3, hx171_4, hx171_5, hx171_6, hx171_7, hx171_8, hx171_9, hl171_9, hi171_9⟩ := at_T67 HR0.out x5_1 p171 q171
           (try rw [← Nbq7.out] at hx171_1)
           (try rw [← Nbq7.out] at hw171_1)
           (try rw [← Nbq7.out] at hx171_6)
           (try rw [← Nbq7.out] at hw171_6)
           cases e171
           replace hx171_0 := skc HB.out hx171_0
           replace hx171_1 := skc HB.out hx171_1
           replace hx171_2 := skc HB.out hx171_2
           replace hx171_3 := skc HB.out hx171_3
           replace hx171_4 := skc HB.out hx171_4
           replace hx171_5 := skc HB.out hx171_5
           replace hx171_6 := skc HB.out hx171_6
           replace hx171_7 := skc HB.out hx171_7
           replace hx171_8 := skc HB.out hx171_8
           replace hx171_9 := skc HB.out hx171_9
           have HR171_9 := asd hi171_9
           have HC171_9 := asd hl171_9
           clear hi171_9 hl171_9
           replace p171 := eq_true p171
           replace q171 := eq_true q171
           have p172 : 0 ≤ (x5_1 : Int) := dt
           have q172 : x5_1 < (l0.length : Int) := dt
           obtain ⟨ad172, A172_9, c172_9, e172, hx172_0, hx172_1, hx172_2, hx172_3, hx172_4, hx172_5, hx172_6, hx172_7, hx172_8, hx172_9, hl172_9, hi172_9⟩ := at_T67 HR0.out x5_1 p172 q172
           (try rw [← Nbq7.out] at hx172_1)
           (try rw [← Nbq7.out] at hw172_1)
           (try rw [← Nbq7.out] at hx172_6)
           (try rw [← Nbq7.out] at hw172_6)
           obtain rfl : ad171 = ad172 := (by injection e172)
           replace hx172_0 := skc HB.out hx172_0
           replace hx172_1 := skc HB.out hx172_1
           replace hx172_2 := skc HB.out hx172_2
           replace hx172_3 := skc HB.out hx172_3
           replace hx172_4 := skc HB.out hx172_4
           replace hx172_5 := skc HB.out hx172_5
           replace hx172_6 := skc HB.out hx172_6
           replace hx172_7 := skc HB.out hx172_7
           replace hx172_8 := skc HB.out hx172_8
           replace hx172_9 := skc HB.out hx172_9
           have HR172_9 := asd hi172_9
           have HC172_9 := asd hl172_9
           clear hi172_9 hl172_9
           replace p172 := eq_true p172
           replace q172 := eq_true q172
           have ea_ := Option.some.inj (hx171_9.symm.trans hx172_9)
           injection ea_ with ea_ en_ ec_
           subst ea_
           subst ec_
           clear en_
           obtain ⟨Ao16, co16, eo16⟩ := Kd.R_slice HO_4.out
           subst eo16
           have p173 : 0 ≤ (((J67 l0 x5_1).f0) : Int) := dt
           have q173 : ((J67 l0 x5_1).f0) < (x4_1.length : Int) := dt
           obtain ⟨ad173, e173, hx173_0⟩ := Kd.at_int (Kd.R_reads' HO_4.out).2.2 ((J67 l0 x5_1).f0) p173 q173
           cases e173
           replace p173 := eq_true p173
           replace q173 := eq_true q173
           have p13 : 0 ≤ ((rd x4_1 ((J67 l0 x5_1).f0)) : Int) := dt
           have q13 : ((rd x4_1 ((J67 l0 x5_1).f0)) : Int) < ((x3_1.length : Int) : Int) := dt
           obtain ⟨go13, co13, eo13, gb13, gl13, cl13, HG13⟩ := Kd.S_form HO_3.out (by omega)
           (first | cases eo13 | (injection eo13 with ea_ en_ ec_; (first | subst ea_ | (injection ea_ with ea_; subst ea_)); subst ec_; clear en_))
           have GB13 := asd gb13
           have GG13 := asd HG13
           clear gb13 gl13 HG13
           obtain ⟨_, ce13, hcl13, hM13, hcc13, hfr13, _, _⟩ := Kd.S_elem HO_3.out z76 ((rd x4_1 ((J67 l0 x5_1).f0)) : Int) p13 q13
           obtain ⟨ve13_8, rfl, ge13_8⟩ := k76_openM hM13
           have hx13_0 : wr.cell? ⟨go13, ((rd x4_1 ((J67 l0 x5_1).f0)) : Int).toNat * 11, none⟩ = some (.int .i64 ((J76 x3_1 (rd x4_1 ((J67 l0 x5_1).f0))).f0)) := hcc13 0 _ rfl
           have hx13_1 : wr.cell? ⟨go13, ((rd x4_1 ((J67 l0 x5_1).f0)) : Int).toNat * 11 + 1, none⟩ = some (.int .i64 ((J76 x3_1 (rd x4_1 ((J67 l0 x5_1).f0))).f1.f0)) := hcc13 1 _ rfl
           have hx13_2 : wr.cell? ⟨go13, ((rd x4_1 ((J67 l0 x5_1).f0)) : Int).toNat * 11 + 2, none⟩ = some (.int .i64 ((J76 x3_1 (rd x4_1 ((J67 l0 x5_1).f0))).f1.f1)) := hcc13 2 _ rfl
           have hx13_3 : wr.cell? ⟨go13, ((rd x4_1 ((J67 l0 x5_1).f0)) : Int).toNat * 11 + 3, none⟩ = some (.int .i64 ((J76 x3_1 (rd x4_1 ((J67 l0 x5_1).f0))).f1.f2)) := hcc13 3 _ rfl
           have hx13_4 : wr.cell? ⟨go13, ((rd x4_1 ((J67 l0 x5_1).f0)) : Int).toNat * 11 + 4, none⟩ = some (.int .i64 ((J76 x3_1 (rd x4_1 ((J67 l0 x5_1).f0))).f1.f3)) := hcc13 4 _ rfl
           have hx13_5 : wr.cell? ⟨go13, ((rd x4_1 ((J67 l0 x5_1).f0)) : Int).toNat * 11 + 5, none⟩ = some (.bool ((J76 x3_1 (rd x4_1 ((J67 l0 x5_1).f0))).f2.f0)) := hcc13 5 _ rfl
           have hx13_6 : wr.cell? ⟨go13, ((rd x4_1 ((J67 l0 x5_1).f0)) : Int).toNat * 11 + 6, none⟩ = some (.int .i64 ((J76 x3_1 (rd x4_1 ((J67 l0 x5_1).f0))).f2.f1)) := hcc13 6 _ rfl
           have hx13_7 : wr.cell? ⟨go13, ((rd x4_1 ((J67 l0 x5_1).f0)) : Int).toNat * 11 + 7, none⟩ = some (.int .i64 ((J76 x3_1 (rd x4_1 ((J67 l0 x5_1).f0))).f2.f2)) := hcc13 7 _ rfl
           have hx13_8 : wr.cell? ⟨go13, ((rd x4_1 ((J67 l0 x5_1).f0)) : Int).toNat * 11 + 8, none⟩ = some (ve13_8) := hcc13 8 _ rfl
           have hx13_9 : wr.cell? ⟨go13, ((rd x4_1 ((J67 l0 x5_1).f0)) : Int).toNat * 11 + 9, none⟩ = some (.int .i64 ((J76 x3_1 (rd x4_1 ((J67 l0 x5_1).f0))).f3)) := hcc13 9 _ rfl
           have hx13_10 : wr.cell? ⟨go13, ((rd x4_1 ((J67 l0 x5_1).f0)) : Int).toNat * 11 + 10, none⟩ = some (.int .i64 ((J76 x3_1 (rd x4_1 ((J67 l0 x5_1).f0))).f4)) := hcc13 10 _ rfl
           have hf13_0 : wr.frozen? ⟨go13, ((rd x4_1 ((J67 l0 x5_1).f0)) : Int).toNat * 11, none⟩ = false := hfr13 0
           have hf13_1 : wr.frozen? ⟨go13, ((rd x4_1 ((J67 l0 x5_1).f0)) : Int).toNat * 11 + 1, none⟩ = false := hfr13 1
           have hf13_2 : wr.frozen? ⟨go13, ((rd x4_1 ((J67 l0 x5_1).f0)) : Int).toNat * 11 + 2, none⟩ = false := hfr13 2
           have hf13_3 : wr.frozen? ⟨go13, ((rd x4_1 ((J67 l0 x5_1).f0)) : Int).toNat * 11 + 3, none⟩ = false := hfr13 3
           have hf13_4 : wr.frozen? ⟨go13, ((rd x4_1 ((J67 l0 x5_1).f0)) : Int).toNat * 11 + 4, none⟩ = false := hfr13 4
           have hf13_5 : wr.frozen? ⟨go13, ((rd x4_1 ((J67 l0 x5_1).f0)) : Int).toNat * 11 + 5, none⟩ = false := hfr13 5
           have hf13_6 : wr.frozen? ⟨go13, ((rd x4_1 ((J67 l0 x5_1).f0)) : Int).toNat * 11 + 6, none⟩ = false := hfr13 6
           have hf13_7 : wr.frozen? ⟨go13, ((rd x4_1 ((J67 l0 x5_1).f0)) : Int).toNat * 11 + 7, none⟩ = false := hfr13 7
           have hf13_8 : wr.frozen? ⟨go13, ((rd x4_1 ((J67 l0 x5_1).f0)) : Int).toNat * 11 + 8, none⟩ = false := hfr13 8
           have hf13_9 : wr.frozen? ⟨go13, ((rd x4_1 ((J67 l0 x5_1).f0)) : Int).toNat * 11 + 9, none⟩ = false := hfr13 9
           have hf13_10 : wr.frozen? ⟨go13, ((rd x4_1 ((J67 l0 x5_1).f0)) : Int).toNat * 11 + 10, none⟩ = false := hfr13 10
           clear hcl13 hcc13 hfr13 hM13
           replace p13 := eq_true p13
           replace q13 := eq_true q13
           have HX17 := asd (show Kd.S k76 76 wr w.heap.size (fun k_ => ((fun _ => True)) k_ ∧ ¬ ((fun _ => False)) k_) (.slice (some ⟨go13, 0, none⟩) x3_1.length co13) x3_1 from (by (with_reducible repeat (first | apply Kd.S_alloc | apply Kd.S_drewN | apply Kd.S_drew)); exact Kd.S_mono HO_3.out (fun k_ hk => ⟨trivial, fun e_ => e_⟩)))
           obtain ⟨oki17, ce17, hcl17, hM17, hcc17, hfr17, hoki17, hH17⟩ := Kd.S_elem HX17.out z76 ((rd x4_1 ((J67 l0 x5_1).f0)) : Int) dt (by have h_ : ((rd x4_1 ((J67 l0 x5_1).f0)) : Int) < ((x3_1.length : Int) : Int) := dt; first | exact h_ | (have e_ := (Kd.S_reads' HO_3.out).1; omega) | simpa using h_)
           obtain ⟨ve17_8, rfl, ge17_8⟩ := k76_openM hM17
           have HP17 := Kd.S_seg hH17 dt (by have h_ : ((rd x4_1 ((J67 l0 x5_1).f0)) : Int) < ((x3_1.length : Int) : Int) := dt; first | exact h_ | (have e_ := (Kd.S_reads' HO_3.out).1; omega) | simpa using h_) (seg := [.int .i64 x5_1]) (j := 10) (show 11 ≤ 11 from by decide) (x' := (⟨(J76 x3_1 (rd x4_1 ((J67 l0 x5_1).f0))).f0, (⟨(J76 x3_1 (rd x4_1 ((J67 l0 x5_1).f0))).f1.f0, (J76 x3_1 (rd x4_1 ((J67 l0 x5_1).f0))).f1.f1, (J76 x3_1 (rd x4_1 ((J67 l0 x5_1).f0))).f1.f2, (J76 x3_1 (rd x4_1 ((J67 l0 x5_1).f0))).f1.f3⟩ : S33), (⟨(J76 x3_1 (rd x4_1 ((J67 l0 x5_1).f0))).f2.f0, (J76 x3_1 (rd x4_1 ((J67 l0 x5_1).f0))).f2.f1, (J76 x3_1 (rd x4_1 ((J67 l0 x5_1).f0))).f2.f2, (J76 x3_1 (rd x4_1 ((J67 l0 x5_1).f0))).f2.f3⟩ : S36), (J76 x3_1 (rd x4_1 ((J67 l0 x5_1).f0))).f3, x5_1⟩ : S76)) (k76_mkM _ _ _ (⟨(J76 x3_1 (rd x4_1 ((J67 l0 x5_1).f0))).f0, (⟨(J76 x3_1 (rd x4_1 ((J67 l0 x5_1).f0))).f1.f0, (J76 x3_1 (rd x4_1 ((J67 l0 x5_1).f0))).f1.f1, (J76 x3_1 (rd x4_1 ((J67 l0 x5_1).f0))).f1.f2, (J76 x3_1 (rd x4_1 ((J67 l0 x5_1).f0))).f1.f3⟩ : S33), (⟨(J76 x3_1 (rd x4_1 ((J67 l0 x5_1).f0))).f2.f0, (J76 x3_1 (rd x4_1 ((J67 l0 x5_1).f0))).f2.f1, (J76 x3_1 (rd x4_1 ((J67 l0 x5_1).f0))).f2.f2, (J76 x3_1 (rd x4_1 ((J67 l0 x5_1).f0))).f2.f3⟩ : S36), (J76 x3_1 (rd x4_1 ((J67 l0 x5_1).f0))).f3, x5_1⟩ : S76) (Kd.R_mono ge17_8 (fun _ h_ => Or.inl h_))) (fun _ hk => hk) (fun k_ hk_ => hk_.elim)
           have hx17_10 := hcc17 10 _ rfl
           (try simp only [show (k76).sz = 11 from rfl, Nat.mul_one, Nat.add_zero] at hx17_10)
           have hf17_10 := hfr17 10
           (try simp only [show (k76).sz = 11 from rfl, Nat.mul_one, Nat.add_zero] at hf17_10)
           clear hcl17 hcc17 hfr17 hM17 hoki17 hH17
           go_wp2_with (first | ((with_reducible refine gate_store (t := 3) (p := 56) rfl ?_); refine store_event (t := 3) (p := 56) (v := ?vo_w18) (w1 := (wr.setCell ⟨go13, ((rd x4_1 ((J67 l0 x5_1).f0)) : Int).toNat * 11 + 10, none⟩ (.int .i64 x5_1))) ?hg ?ho ?hn ?hr ?_; (case ho => rfl); (case hg => rfl); (case hn => rfl); (case hr => first | (go_simp; done) | (go_simp; rfl)); intro w18 hw; have hg : wr.grownBy w18 (some go13) := (by rw [hw]; exact HP17.2); have hp_ : Kd.S k76 76 w18 w.heap.size (fun _ => True) (.slice (some ⟨go13, 0, none⟩) x3_1.length co13) y174 := (by rw [hw, Ny174.out]; exact HP17.1); clear HP17; have n0_ := asd (hp_); have n1_ := asd (Kd.R_over' (v := (.slice (some ⟨go13, 0, none⟩) x3_1.length co13)) (skR HO_4.out) (Kd.S_typed HO_3.out) (by decide) hg); have n2_ := asd ((by rw [hw]; exact below_set (HB.out) GB13.out : Below w.heap.size w w18)); clear HO_3; clear HO_4; clear HB; have HO_3 := n0_; have HO_4 := n1_; have HB := n2_; clear n0_ n1_ n2_; clear hg hw hp_; have p175 : 0 ≤ (x5_1 : Int) := dt; have q175 : x5_1 < (l0.length : Int) := dt; obtain ⟨ad175, A175_9, c175_9, e175, hx175_0, hx175_1, hx175_2, hx175_3, hx175_4, hx175_5, hx175_6, hx175_7, hx175_8, hx175_9, hl175_9, hi175_9⟩ := at_T67 HR0.out x5_1 p175 q175; (try rw [← Nbq7.out] at hx175_1); (try rw [← Nbq7.out] at hx175_6); obtain rfl : ad171 = ad175 := (by injection e175); replace hx175_0 := skc HB.out hx175_0; replace hx175_1 := skc HB.out hx175_1; replace hx175_2 := skc HB.out hx175_2; replace hx175_3 := skc HB.out hx175_3; replace hx175_4 := skc HB.out hx175_4; replace hx175_5 := skc HB.out hx175_5; replace hx175_6 := skc HB.out hx175_6; replace hx175_7 := skc HB.out hx175_7; replace hx175_8 := skc HB.out hx175_8; replace hx175_9 := skc HB.out hx175_9; have HR175_9 := asd hi175_9; have HC175_9 := asd hl175_9; clear hi175_9 hl175_9; replace p175 := eq_true p175; replace q175 := eq_true q175) | ((with_reducible refine gate_callee (f := 65) rfl ?_); refine goesL_ (some 64) rfl rfl Try.func65 (by kernel_rfl) rfl #[.agg #[.bool ((J67 l0 x5_1).f3.f0), .int .i64 ((J67 l0 x5_1).f3.f1), .int .i64 ((J67 l0 x5_1).f3.f2), .slice A175_9 ((J67 l0 x5_1).f3.f3).length c175_9]] rfl ags ?_; (with_reducible refine (larchref05_CopyRet.calls ((J67 l0 x5_1).f3.f0) ((J67 l0 x5_1).f3.f1) ((J67 l0 x5_1).f3.f2) _ _ ((J67 l0 x5_1).f3.f3) t176 t177 t178 t179 _ ?side1 ?side2 A14.out).mono ?_); (case side1 => exact skC (Kd.C_below HR175_9.out HB.out)); (case side2 => exact HC175_9.out); rintro e w19 ⟨v180, rfl, ho0, hb⟩; obtain ⟨Av180, cv180, rfl⟩ := Kd.R_slice ho0; refine ⟨_, rfl, ?_⟩; have n0_ := asd (Kd.S_elder' (by (with_reducible repeat (first | apply Kd.S_alloc | apply Kd.S_drewN | apply Kd.S_drew)); exact HO_3.out) (Kd.R_base ho0) hb); have n1_ := asd (Kd.R_below (skR HO_4.out) hb); have n2_ := asd (Kd.R_lower ho0 (below_size (skB HB.out))); have n3_ := asd (below_step (skB HB.out) hb); clear HO_3; clear HO_4; clear HB; have HO_3 := n0_; have HO_4 := n1_; have HO181 := n2_; have HB := n3_; clear n0_ n1_ n2_ n3_; (try clear hb); (try clear hb2); (try clear hk); (try clear hi); (try clear ho0); have p15 : 0 ≤ ((rd x4_1 ((J67 l0 x5_1).f0)) : Int) := dt; have q15 : ((rd x4_1 ((J67 l0 x5_1).f0)) : Int) < ((x3_1.length : Int) : Int) := dt; obtain ⟨_, ce15, hcl15, hM15, hcc15, hfr15, _, _⟩ := Kd.S_elem HO_3.out z76 ((rd x4_1 ((J67 l0 x5_1).f0)) : Int) p15 q15; obtain ⟨ve15_8, rfl, ge15_8⟩ := k76_openM hM15; have hx15_0 : w19.cell? ⟨go13, ((rd x4_1 ((J67 l0 x5_1).f0)) : Int).toNat * 11, none⟩ = some (.int .i64 ((J76 y174 (rd x4_1 ((J67 l0 x5_1).f0))).f0)) := hcc15 0 _ rfl; have hx15_1 : w19.cell? ⟨go13, ((rd x4_1 ((J67 l0 x5_1).f0)) : Int).toNat * 11 + 1, none⟩ = some (.int .i64 ((J76 y174 (rd x4_1 ((J67 l0 x5_1).f0))).f1.f0)) := hcc15 1 _ rfl; have hx15_2 : w19.cell? ⟨go13, ((rd x4_1 ((J67 l0 x5_1).f0)) : Int).toNat * 11 + 2, none⟩ = some (.int .i64 ((J76 y174 (rd x4_1 ((J67 l0 x5_1).f0))).f1.f1)) := hcc15 2 _ rfl; have hx15_3 : w19.cell? ⟨go13, ((rd x4_1 ((J67 l0 x5_1).f0)) : Int).toNat * 11 + 3, none⟩ = some (.int .i64 ((J76 y174 (rd x4_1 ((J67 l0 x5_1).f0))).f1.f2)) := hcc15 3 _ rfl; have hx15_4 : w19.cell? ⟨go13, ((rd x4_1 ((J67 l0 x5_1).f0)) : Int).toNat * 11 + 4, none⟩ = some (.int .i64 ((J76 y174 (rd x4_1 ((J67 l0 x5_1).f0))).f1.f3)) := hcc15 4 _ rfl; have hx15_5 : w19.cell? ⟨go13, ((rd x4_1 ((J67 l0 x5_1).f0)) : Int).toNat * 11 + 5, none⟩ = some (.bool ((J76 y174 (rd x4_1 ((J67 l0 x5_1).f0))).f2.f0)) := hcc15 5 _ rfl; have hx15_6 : w19.cell? ⟨go13, ((rd x4_1 ((J67 l0 x5_1).f0)) : Int).toNat * 11 + 6, none⟩ = some (.int .i64 ((J76 y174 (rd x4_1 ((J67 l0 x5_1).f0))).f2.f1)) := hcc15 6 _ rfl; have hx15_7 : w19.cell? ⟨go13, ((rd x4_1 ((J67 l0 x5_1).f0)) : Int).toNat * 11 + 7, none⟩ = some (.int .i64 ((J76 y174 (rd x4_1 ((J67 l0 x5_1).f0))).f2.f2)) := hcc15 7 _ rfl; have hx15_8 : w19.cell? ⟨go13, ((rd x4_1 ((J67 l0 x5_1).f0)) : Int).toNat * 11 + 8, none⟩ = some (ve15_8) := hcc15 8 _ rfl; have hx15_9 : w19.cell? ⟨go13, ((rd x4_1 ((J67 l0 x5_1).f0)) : Int).toNat * 11 + 9, none⟩ = some (.int .i64 ((J76 y174 (rd x4_1 ((J67 l0 x5_1).f0))).f3)) := hcc15 9 _ rfl; have hx15_10 : w19.cell? ⟨go13, ((rd x4_1 ((J67 l0 x5_1).f0)) : Int).toNat * 11 + 10, none⟩ = some (.int .i64 ((J76 y174 (rd x4_1 ((J67 l0 x5_1).f0))).f4)) := hcc15 10 _ rfl; have hf15_0 : w19.frozen? ⟨go13, ((rd x4_1 ((J67 l0 x5_1).f0)) : Int).toNat * 11, none⟩ = false := hfr15 0; have hf15_1 : w19.frozen? ⟨go13, ((rd x4_1 ((J67 l0 x5_1).f0)) : Int).toNat * 11 + 1, none⟩ = false := hfr15 1; have hf15_2 : w19.frozen? ⟨go13, ((rd x4_1 ((J67 l0 x5_1).f0)) : Int).toNat * 11 + 2, none⟩ = false := hfr15 2; have hf15_3 : w19.frozen? ⟨go13, ((rd x4_1 ((J67 l0 x5_1).f0)) : Int).toNat * 11 + 3, none⟩ = false := hfr15 3; have hf15_4 : w19.frozen? ⟨go13, ((rd x4_1 ((J67 l0 x5_1).f0)) : Int).toNat * 11 + 4, none⟩ = false := hfr15 4; have hf15_5 : w19.frozen? ⟨go13, ((rd x4_1 ((J67 l0 x5_1).f0)) : Int).toNat * 11 + 5, none⟩ = false := hfr15 5; have hf15_6 : w19.frozen? ⟨go13, ((rd x4_1 ((J67 l0 x5_1).f0)) : Int).toNat * 11 + 6, none⟩ = false := hfr15 6; have hf15_7 : w19.frozen? ⟨go13, ((rd x4_1 ((J67 l0 x5_1).f0)) : Int).toNat * 11 + 7, none⟩ = false := hfr15 7; have hf15_8 : w19.frozen? ⟨go13, ((rd x4_1 ((J67 l0 x5_1).f0)) : Int).toNat * 11 + 8, none⟩ = false := hfr15 8; have hf15_9 : w19.frozen? ⟨go13, ((rd x4_1 ((J67 l0 x5_1).f0)) : Int).toNat * 11 + 9, none⟩ = false := hfr15 9; have hf15_10 : w19.frozen? ⟨go13, ((rd x4_1 ((J67 l0 x5_1).f0)) : Int).toNat * 11 + 10, none⟩ = false := hfr15 10; clear hcl15 hcc15 hfr15 hM15; replace p15 := eq_true p15; replace q15 := eq_true q15; have n_ := asd (Kd.S_mono (ok' := (fun k_ => some k_ ≠ ((.slice Av180 t179.length cv180 : Value) : Value).ownBlock)) HO_3.out (fun k_ hk => hk.2)); clear HO_3; have HO_3 := n_; clear n_; have HX20 := asd (show Kd.S k76 76 w19 w.heap.size (fun k_ => ((fun _ => True)) k_ ∧ ¬ ((fun k_ => some k_ = ((.slice Av180 t179.length cv180 : Value) : Value).ownBlock)) k_) (.slice (some ⟨go13, 0, none⟩) x3_1.length co13) y174 from (by (with_reducible repeat (first | apply Kd.S_alloc | apply Kd.S_drewN | apply Kd.S_drew)); exact Kd.S_mono HO_3.out (fun k_ hk => ⟨trivial, fun e_ => hk e_⟩))); obtain ⟨oki20, ce20, hcl20, hM20, hcc20, hfr20, hoki20, hH20⟩ := Kd.S_elem HX20.out z76 ((rd x4_1 ((J67 l0 x5_1).f0)) : Int) dt (by have h_ : ((rd x4_1 ((J67 l0 x5_1).f0)) : Int) < ((x3_1.length : Int) : Int) := dt; first | exact h_ | (have e_ := (Kd.S_reads' HO_3.out).1; omega) | simpa using h_); obtain ⟨ve20_8, rfl, ge20_8⟩ := k76_openM hM20; have HP20 := Kd.S_seg hH20 dt (by have h_ : ((rd x4_1 ((J67 l0 x5_1).f0)) : Int) < ((x3_1.length : Int) : Int) := dt; first | exact h_ | (have e_ := (Kd.S_reads' HO_3.out).1; omega) | simpa using h_) (seg := [.bool t176, .int .i64 t177, .int .i64 t178, (.slice Av180 t179.length cv180 : Value)]) (j := 5) (show 9 ≤ 11 from by decide) (x' := (⟨(J76 y174 (rd x4_1 ((J67 l0 x5_1).f0))).f0, (⟨(J76 y174 (rd x4_1 ((J67 l0 x5_1).f0))).f1.f0, (J76 y174 (rd x4_1 ((J67 l0 x5_1).f0))).f1.f1, (J76 y174 (rd x4_1 ((J67 l0 x5_1).f0))).f1.f2, (J76 y174 (rd x4_1 ((J67 l0 x5_1).f0))).f1.f3⟩ : S33), (⟨t176, t177, t178, t179⟩ : S36), (J76 y174 (rd x4_1 ((J67 l0 x5_1).f0))).f3, (J76 y174 (rd x4_1 ((J67 l0 x5_1).f0))).f4⟩ : S76)) (k76_mkM _ _ _ (⟨(J76 y174 (rd x4_1 ((J67 l0 x5_1).f0))).f0, (⟨(J76 y174 (rd x4_1 ((J67 l0 x5_1).f0))).f1.f0, (J76 y174 (rd x4_1 ((J67 l0 x5_1).f0))).f1.f1, (J76 y174 (rd x4_1 ((J67 l0 x5_1).f0))).f1.f2, (J76 y174 (rd x4_1 ((J67 l0 x5_1).f0))).f1.f3⟩ : S33), (⟨t176, t177, t178, t179⟩ : S36), (J76 y174 (rd x4_1 ((J67 l0 x5_1).f0))).f3, (J76 y174 (rd x4_1 ((J67 l0 x5_1).f0))).f4⟩ : S76) (Kd.R_mono (Kd.R_tight rfl (Kd.R_mono (ok' := fun k_ => ((fun _ => True)) k_ ∧ k_ ≠ go13) (Kd.R_apart' (HO181.out) (Kd.S_typed HO_3.out) (by decide)) (fun k_ hk => ⟨trivial, fun e_ => (hk.2) (by rw [e_]; rfl)⟩))) (fun _ h_ => Or.inr (h_)))) (fun _ hk => hk) (fun k_ hk_ => ((Kd.R_mono (ok' := fun k_ => ((fun _ => True)) k_ ∧ k_ ≠ go13) (Kd.R_apart' (HO181.out) (Kd.S_typed HO_3.out) (by decide)) (fun k_ hk => ⟨trivial, fun e_ => (hk.2) (by rw [e_]; rfl)⟩))).1 k_ hk_.symm); have hx20_5 := hcc20 5 _ rfl; (try simp only [show (k76).sz = 11 from rfl, Nat.mul_one, Nat.add_zero] at hx20_5); have hf20_5 := hfr20 5; (try simp only [show (k76).sz = 11 from rfl, Nat.mul_one, Nat.add_zero] at hf20_5); have hx20_6 := hcc20 6 _ rfl; (try simp only [show (k76).sz = 11 from rfl, Nat.mul_one, Nat.add_zero] at hx20_6); have hf20_6 := hfr20 6; (try simp only [show (k76).sz = 11 from rfl, Nat.mul_one, Nat.add_zero] at hf20_6); have hx20_7 := hcc20 7 _ rfl; (try simp only [show (k76).sz = 11 from rfl, Nat.mul_one, Nat.add_zero] at hx20_7); have hf20_7 := hfr20 7; (try simp only [show (k76).sz = 11 from rfl, Nat.mul_one, Nat.add_zero] at hf20_7); have hx20_8 := hcc20 8 _ rfl; (try simp only [show (k76).sz = 11 from rfl, Nat.mul_one, Nat.add_zero] at hx20_8); have hf20_8 := hfr20 8; (try simp only [show (k76).sz = 11 from rfl, Nat.mul_one, Nat.add_zero] at hf20_8); clear hcl20 hcc20 hfr20 hM20 hoki20 hH20) | ((with_reducible refine gate_store (t := 36) (p := 66) rfl ?_); refine store_event (t := 36) (p := 66) (v := ?vo_w21) (w1 := ((((w19.setCell ⟨go13, ((rd x4_1 ((J67 l0 x5_1).f0)) : Int).toNat * 11 + 5, none⟩ (.bool t176)).setCell ⟨go13, ((rd x4_1 ((J67 l0 x5_1).f0)) : Int).toNat * 11 + 6, none⟩ (.int .i64 t177)).setCell ⟨go13, ((rd x4_1 ((J67 l0 x5_1).f0)) : Int).toNat * 11 + 7, none⟩ (.int .i64 t178)).setCell ⟨go13, ((rd x4_1 ((J67 l0 x5_1).f0)) : Int).toNat * 11 + 8, none⟩ ((.slice Av180 t179.length cv180 : Value)))) ?hg ?ho ?hn ?hr ?_; (case ho => rfl); (case hg => rfl); (case hn => rfl); (case hr => first | (go_simp; done) | (go_simp; rfl)); intro w21 hw; have hg : w19.grownBy w21 (some go13) := (by rw [hw]; exact HP20.2); have hp_ : Kd.S k76 76 w21 w.heap.size (fun _ => True) (.slice (some ⟨go13, 0, none⟩) x3_1.length co13) y182 := (by rw [hw, Ny182.out]; exact HP20.1); clear HP20; have n0_ := asd (hp_); have n1_ := asd (Kd.R_over' (v := (.slice (some ⟨go13, 0, none⟩) x3_1.length co13)) (skR HO_4.out) (Kd.S_typed HO_3.out) (by decide) hg); have n2_ := asd ((by rw [hw]; exact below_set (below_set (below_set (below_set (HB.out) GB13.out) GB13.out) GB13.out) GB13.out : Below w.heap.size w w21)); clear HO_3; clear HO_4; clear HB; clear HO181; have HO_3 := n0_; have HO_4 := n1_; have HB := n2_; clear n0_ n1_ n2_; clear hg hw hp_))
           go_roundg k1
           case measure => have := HK1.out; omega
           case rel => exact ⟨(y182), (x4_1), (wrap64 (x5_1 + 1)), rs, H', ⟨by have := HK1.out; omega⟩, ⟨by (with_reducible repeat (first | apply Kd.S_alloc | apply Kd.S_drewN | apply Kd.S_drew)); exact HO_3.out⟩, ⟨skR HO_4.out⟩, ⟨skB HB.out⟩⟩
          ·
           rw [if_neg c12] at H
           exact absurd H (by simp)
         ·
          rw [if_neg c11] at H
          exact absurd H (by simp)
        ·
         rw [if_neg c10] at H
         exact absurd H (by simp)
       ·
        rw [if_neg c9] at H
        exact absurd H (by simp)
      ·
       replace c8 := Bool.eq_false_iff.mpr c8
       subst c8
       have H1 : (if 0 ≤ ((J67 l0 x5_1).f0) then (if ((J67 l0 x5_1).f0) < (x4_1.length : Int) then (if x3_1.length < 1353245080339 then (larchref05_calls.l0 k1 l0 (x3_1 ++ [(⟨(J67 l0 x5_1).f0, (⟨(J67 l0 x5_1).f2.f0, (J67 l0 x5_1).f2.f1, (J67 l0 x5_1).f2.f2, (J67 l0 x5_1).f2.f3⟩ : S33), (⟨false, 0, 0, ([] : List (S70))⟩ : S36), x5_1, (-1)⟩ : S76)]) (x4_1.set (((J67 l0 x5_1).f0) : Int).toNat (x3_1.length : Int)) (wrap64 (x5_1 + 1))) else (none)) else (none)) else (none)) = some r := by rw [if_neg (show ¬ (false = true) by decide)] at H; exact H
       clear H
       have H := H1
       clear H1
       by_cases c22 : 0 ≤ ((J67 l0 x5_1).f0)
       ·
        rw [if_pos c22] at H
        have c22b0 : decide (0 ≤ ((J67 l0 x5_1).f0)) = true := decide_eq_true c22
        clear c22
        by_cases c23 : ((J67 l0 x5_1).f0) < (x4_1.length : Int)
        ·
         rw [if_pos c23] at H
         have c23b0 : decide (((J67 l0 x5_1).f0) < (x4_1.length : Int)) = true := decide_eq_true c23
         clear c23
         obtain ⟨y184, hy184⟩ : ∃ y_ : List Int, y_ = (x4_1.set (((J67 l0 x5_1).f0) : Int).toNat (x3_1.length : Int)) := ⟨_, rfl⟩
         replace H : (if x3_1.length < 1353245080339 then (larchref05_calls.l0 k1 l0 (x3_1 ++ [(⟨(J67 l0 x5_1).f0, (⟨(J67 l0 x5_1).f2.f0, (J67 l0 x5_1).f2.f1, (J67 l0 x5_1).f2.f2, (J67 l0 x5_1).f2.f3⟩ : S33), (⟨false, 0, 0, ([] : List (S70))⟩ : S36), x5_1, (-1)⟩ : S76)]) y184 (wrap64 (x5_1 + 1))) else (none)) = some r := by first | (rw [hy184]; with_reducible exact H) | (have H2_ := (Option.bind_some _ _).symm.trans H; rw [hy184]; with_reducible exact H2_) | (have H2_ := (Option.bind_some _ _).symm.trans H; with_reducible exact H2_) | with_reducible exact H | (rw [hy184]; exact H) | exact H
         have Ny184 := asd hy184
         clear hy184
         by_cases c25 : x3_1.length < 1353245080339
         ·
          rw [if_pos c25] at H
          have LMc25 := asd c25
          clear c25
          obtain ⟨y187, hy187⟩ : ∃ y_ : List (S76), y_ = (x3_1 ++ [(⟨(J67 l0 x5_1).f0, (⟨(J67 l0 x5_1).f2.f0, (J67 l0 x5_1).f2.f1, (J67 l0 x5_1).f2.f2, (J67 l0 x5_1).f2.f3⟩ : S33), (⟨false, 0, 0, ([] : List (S70))⟩ : S36), x5_1, (-1)⟩ : S76)]) := ⟨_, rfl⟩
          replace H : (larchref05_calls.l0 k1 l0 y187 y184 (wrap64 (x5_1 + 1))) = some r := by first | (rw [hy187]; with_reducible exact H) | (have H2_ := (Option.bind_some _ _).symm.trans H; rw [hy187]; with_reducible exact H2_) | (have H2_ := (Option.bind_some _ _).symm.trans H; with_reducible exact H2_) | with_reducible exact H | (rw [hy187]; exact H) | exact H
          have Ny187 := asd hy187
          clear hy187
          have H' := asd H
          clear H
          have p171 : 0 ≤ (x5_1 : Int) := dt
          have q171 : x5_1 < (l0.length : Int) := dt
          obtain ⟨ad171, A171_9, c171_9, e171, hx171_0, hx171_1, hx171_2, hx171_3, hx171_4, hx171_5, hx171_6, hx171_7, hx171_8, hx171_9, hl171_9, hi171_9⟩ := at_T67 HR0.out x5_1 p171 q171
          (try rw [← Nbq7.out] at hx171_1)
          (try rw [← Nbq7.out] at hw171_1)
          (try rw [← Nbq7.out] at hx171_6)
          (try rw [← Nbq7.out] at hw171_6)
          cases e171
          replace hx171_0 := skc HB.out hx171_0
          replace hx171_1 := skc HB.out hx171_1
          replace hx171_2 := skc HB.out hx171_2
          replace hx171_3 := skc HB.out hx171_3
          replace hx171_4 := skc HB.out hx171_4
          replace hx171_5 := skc HB.out hx171_5
          replace hx171_6 := skc HB.out hx171_6
          replace hx171_7 := skc HB.out hx171_7
          replace hx171_8 := skc HB.out hx171_8
          replace hx171_9 := skc HB.out hx171_9
          have HR171_9 := asd hi171_9
          have HC171_9 := asd hl171_9
          clear hi171_9 hl171_9
          replace p171 := eq_true p171
          replace q171 := eq_true q171
          have p183 : 0 ≤ (x5_1 : Int) := dt
          have q183 : x5_1 < (l0.length : Int) := dt
          obtain ⟨ad183, A183_9, c183_9, e183, hx183_0, hx183_1, hx183_2, hx183_3, hx183_4, hx183_5, hx183_6, hx183_7, hx183_8, hx183_9, hl183_9, hi183_9⟩ := at_T67 HR0.out x5_1 p183 q183
          (try rw [← Nbq7.out] at hx183_1)
          (try rw [← Nbq7.out] at hw183_1)
          (try rw [← Nbq7.out] at hx183_6)
          (try rw [← Nbq7.out] at hw183_6)
          obtain rfl : ad171 = ad183 := (by injection e183)
          replace hx183_0 := skc HB.out hx183_0
          replace hx183_1 := skc HB.out hx183_1
          replace hx183_2 := skc HB.out hx183_2
          replace hx183_3 := skc HB.out hx183_3
          replace hx183_4 := skc HB.out hx183_4
          replace hx183_5 := skc HB.out hx183_5
          replace hx183_6 := skc HB.out hx183_6
          replace hx183_7 := skc HB.out hx183_7
          replace hx183_8 := skc HB.out hx183_8
          replace hx183_9 := skc HB.out hx183_9
          have HR183_9 := asd hi183_9
          have HC183_9 := asd hl183_9
          clear hi183_9 hl183_9
          replace p183 := eq_true p183
          replace q183 := eq_true q183
          have ea_ := Option.some.inj (hx171_9.symm.trans hx183_9)
          injection ea_ with ea_ en_ ec_
          subst ea_
          subst ec_
          clear en_
          obtain ⟨Ao26, co26, eo26⟩ := Kd.S_slice HO_3.out
          subst eo26
          have p24 : 0 ≤ (((J67 l0 x5_1).f0) : Int) := dt
          have q24 : (((J67 l0 x5_1).f0) : Int) < ((x4_1.length : Int) : Int) := dt
          obtain ⟨go24, co24, eo24, gb24, gl24, cl24, HG24⟩ := Kd.R_form HO_4.out (by omega)
          (first | cases eo24 | (injection eo24 with ea_ en_ ec_; (first | subst ea_ | (injection ea_ with ea_; subst ea_)); subst ec_; clear en_))
          have GB24 := asd gb24
          have GG24 := asd HG24
          clear gb24 gl24 HG24
          obtain ⟨hx24_0, hf24_0⟩ := Kd.R_celln 0 HO_4.out (((J67 l0 x5_1).f0) : Int) p24 q24
          replace p24 := eq_true p24
          replace q24 := eq_true q24
          have HP27 := Kd.R_putg HO_4.out (((J67 l0 x5_1).f0) : Int) (x3_1.length : Int)
          try go_wp2_with (first | ((with_reducible refine gate_store (t := 3) (p := 28) rfl ?_); refine store_event (t := 3) (p := 28) (v := ?vo_w28) (w1 := (wr.setCell ⟨go24, (((J67 l0 x5_1).f0) : Int).toNat, none⟩ (.int .i64 (x3_1.length : Int)))) ?hg ?ho ?hn ?hr ?_; (case ho => rfl); (case hg => rfl); (case hn => rfl); (case hr => first | (go_simp; done) | (go_simp; rfl)); intro w28 hw; have hg : wr.grownBy w28 (some go24) := (by rw [hw]; exact HP27.2); have hp_ : Kd.R (Kd.int .i64) 3 w28 w.heap.size (fun _ => True) (.slice (some ⟨go24, 0, none⟩) x4_1.length co24) y184 := (by rw [hw, Ny184.out]; exact HP27.1); clear HP27; have n0_ := asd (Kd.S_over' (v := (.slice (some ⟨go24, 0, none⟩) x4_1.length co24)) (by (with_reducible repeat (first | apply Kd.S_alloc | apply Kd.S_drewN | apply Kd.S_drew)); exact HO_3.out) (Kd.R_typed HO_4.out) (by decide) hg); have n1_ := asd (hp_); have n2_ := asd ((by rw [hw]; exact below_set (HB.out) GB24.out : Below w.heap.size w w28)); clear HO_3; clear HO_4; clear HB; have HO_3 := n0_; have HO_4 := n1_; have HB := n2_; clear n0_ n1_ n2_; clear hg hw hp_))
          have n0_ := asd (Kd.S_drew HO_3.out)
          have n1_ := asd (Kd.R_drew HO_4.out)
          have n2_ := asd (below_drew1 HB.out)
          clear HO_3
          clear HO_4
          clear HB
          have HO_3 := n0_
          have HO_4 := n1_
          have HB := n2_
          clear n0_ n1_ n2_
          have p185 : 0 ≤ (x5_1 : Int) := dt
          have q185 : x5_1 < (l0.length : Int) := dt
          obtain ⟨ad185, A185_9, c185_9, e185, hx185_0, hx185_1, hx185_2, hx185_3, hx185_4, hx185_5, hx185_6, hx185_7, hx185_8, hx185_9, hl185_9, hi185_9⟩ := at_T67 HR0.out x5_1 p185 q185
          have hw185_9 := hx185_9
          have hw185_8 := hx185_8
          have hw185_7 := hx185_7
          have hw185_6 := hx185_6
          have hw185_5 := hx185_5
          have hw185_4 := hx185_4
          have hw185_3 := hx185_3
          have hw185_2 := hx185_2
          have hw185_1 := hx185_1
          have hw185_0 := hx185_0
          (try rw [← Nbq7.out] at hx185_1)
          (try rw [← Nbq7.out] at hw185_1)
          (try rw [← Nbq7.out] at hx185_6)
          (try rw [← Nbq7.out] at hw185_6)
          obtain rfl : ad171 = ad185 := (by injection e185)
          replace hx185_0 := skc HB.out hx185_0
          replace hx185_1 := skc HB.out hx185_1
          replace hx185_2 := skc HB.out hx185_2
          replace hx185_3 := skc HB.out hx185_3
          replace hx185_4 := skc HB.out hx185_4
          replace hx185_5 := skc HB.out hx185_5
          replace hx185_6 := skc HB.out hx185_6
          replace hx185_7 := skc HB.out hx185_7
          replace hx185_8 := skc HB.out hx185_8
          replace hx185_9 := skc HB.out hx185_9
          have HR185_9 := asd hi185_9
          have HC185_9 := asd hl185_9
          clear hi185_9 hl185_9
          replace p185 := eq_true p185
          replace q185 := eq_true q185
          have p186 : 0 ≤ (x5_1 : Int) := dt
          have q186 : x5_1 < (l0.length : Int) := dt
          obtain ⟨ad186, A186_9, c186_9, e186, hx186_0, hx186_1, hx186_2, hx186_3, hx186_4, hx186_5, hx186_6, hx186_7, hx186_8, hx186_9, hl186_9, hi186_9⟩ := at_T67 HR0.out x5_1 p186 q186
          have hw186_9 := hx186_9
          have hw186_8 := hx186_8
          have hw186_7 := hx186_7
          have hw186_6 := hx186_6
          have hw186_5 := hx186_5
          have hw186_4 := hx186_4
          have hw186_3 := hx186_3
          have hw186_2 := hx186_2
          have hw186_1 := hx186_1
          have hw186_0 := hx186_0
          (try rw [← Nbq7.out] at hx186_1)
          (try rw [← Nbq7.out] at hw186_1)
          (try rw [← Nbq7.out] at hx186_6)
          (try rw [← Nbq7.out] at hw186_6)
          obtain rfl : ad171 = ad186 := (by injection e186)
          replace hx186_0 := skc HB.out hx186_0
          replace hx186_1 := skc HB.out hx186_1
          replace hx186_2 := skc HB.out hx186_2
          replace hx186_3 := skc HB.out hx186_3
          replace hx186_4 := skc HB.out hx186_4
          replace hx186_5 := skc HB.out hx186_5
          replace hx186_6 := skc HB.out hx186_6
          replace hx186_7 := skc HB.out hx186_7
          replace hx186_8 := skc HB.out hx186_8
          replace hx186_9 := skc HB.out hx186_9
          have HR186_9 := asd hi186_9
          have HC186_9 := asd hl186_9
          clear hi186_9 hl186_9
          replace p186 := eq_true p186
          replace q186 := eq_true q186
          have ea_ := Option.some.inj (hx185_9.symm.trans hx186_9)
          injection ea_ with ea_ en_ ec_
          subst ea_
          subst ec_
          clear en_
          refine start_ (n := 16) (S := fun w' => w'.cell? (ad171.add ((x5_1).toNat * 10)) = some (.int .i64 ((J67 l0 x5_1).f0)) ∧ w'.cell? ⟨(ad171.add ((x5_1).toNat * 10)).block, (ad171.add ((x5_1).toNat * 10)).off + 1, none⟩ = some (.bool (false)) ∧ w'.cell? ⟨(ad171.add ((x5_1).toNat * 10)).block, (ad171.add ((x5_1).toNat * 10)).off + 2, none⟩ = some (.int .i64 ((J67 l0 x5_1).f2.f0)) ∧ w'.cell? ⟨(ad171.add ((x5_1).toNat * 10)).block, (ad171.add ((x5_1).toNat * 10)).off + 3, none⟩ = some (.int .i64 ((J67 l0 x5_1).f2.f1)) ∧ w'.cell? ⟨(ad171.add ((x5_1).toNat * 10)).block, (ad171.add ((x5_1).toNat * 10)).off + 4, none⟩ = some (.int .i64 ((J67 l0 x5_1).f2.f2)) ∧ w'.cell? ⟨(ad171.add ((x5_1).toNat * 10)).block, (ad171.add ((x5_1).toNat * 10)).off + 5, none⟩ = some (.int .i64 ((J67 l0 x5_1).f2.f3)) ∧ w'.cell? ⟨(ad171.add ((x5_1).toNat * 10)).block, (ad171.add ((x5_1).toNat * 10)).off + 6, none⟩ = some (.bool ((J67 l0 x5_1).f3.f0)) ∧ w'.cell? ⟨(ad171.add ((x5_1).toNat * 10)).block, (ad171.add ((x5_1).toNat * 10)).off + 7, none⟩ = some (.int .i64 ((J67 l0 x5_1).f3.f1)) ∧ w'.cell? ⟨(ad171.add ((x5_1).toNat * 10)).block, (ad171.add ((x5_1).toNat * 10)).off + 8, none⟩ = some (.int .i64 ((J67 l0 x5_1).f3.f2)) ∧ w'.cell? ⟨(ad171.add ((x5_1).toNat * 10)).block, (ad171.add ((x5_1).toNat * 10)).off + 9, none⟩ = some (.slice A185_9 ((J67 l0 x5_1).f3.f3).length c185_9) ∧ w'.cell? (ad171.add ((x5_1).toNat * 10)) = some (.int .i64 ((J67 l0 x5_1).f0)) ∧ w'.cell? ⟨(ad171.add ((x5_1).toNat * 10)).block, (ad171.add ((x5_1).toNat * 10)).off + 1, none⟩ = some (.bool (false)) ∧ w'.cell? ⟨(ad171.add ((x5_1).toNat * 10)).block, (ad171.add ((x5_1).toNat * 10)).off + 2, none⟩ = some (.int .i64 ((J67 l0 x5_1).f2.f0)) ∧ w'.cell? ⟨(ad171.add ((x5_1).toNat * 10)).block, (ad171.add ((x5_1).toNat * 10)).off + 3, none⟩ = some (.int .i64 ((J67 l0 x5_1).f2.f1)) ∧ w'.cell? ⟨(ad171.add ((x5_1).toNat * 10)).block, (ad171.add ((x5_1).toNat * 10)).off + 4, none⟩ = some (.int .i64 ((J67 l0 x5_1).f2.f2)) ∧ w'.cell? ⟨(ad171.add ((x5_1).toNat * 10)).block, (ad171.add ((x5_1).toNat * 10)).off + 5, none⟩ = some (.int .i64 ((J67 l0 x5_1).f2.f3)) ∧ w'.cell? ⟨(ad171.add ((x5_1).toNat * 10)).block, (ad171.add ((x5_1).toNat * 10)).off + 6, none⟩ = some (.bool ((J67 l0 x5_1).f3.f0)) ∧ w'.cell? ⟨(ad171.add ((x5_1).toNat * 10)).block, (ad171.add ((x5_1).toNat * 10)).off + 7, none⟩ = some (.int .i64 ((J67 l0 x5_1).f3.f1)) ∧ w'.cell? ⟨(ad171.add ((x5_1).toNat * 10)).block, (ad171.add ((x5_1).toNat * 10)).off + 8, none⟩ = some (.int .i64 ((J67 l0 x5_1).f3.f2)) ∧ w'.cell? ⟨(ad171.add ((x5_1).toNat * 10)).block, (ad171.add ((x5_1).toNat * 10)).off + 9, none⟩ = some (.slice A185_9 ((J67 l0 x5_1).f3.f3).length c185_9)) (ds := []) #[false,false,false,false,false,false,false,false,false,false,false,false,false,false,false,false] (by kernel_rfl) rfl rfl ⟨(skc HB.out hw185_0), (skc HB.out hw185_1), (skc HB.out hw185_2), (skc HB.out hw185_3), (skc HB.out hw185_4), (skc HB.out hw185_5), (skc HB.out hw185_6), (skc HB.out hw185_7), (skc HB.out hw185_8), (skc HB.out hw185_9), (skc HB.out hw186_0), (skc HB.out hw186_1), (skc HB.out hw186_2), (skc HB.out hw186_3), (skc HB.out hw186_4), (skc HB.out hw186_5), (skc HB.out hw186_6), (skc HB.out hw186_7), (skc HB.out hw186_8), (skc HB.out hw186_9)⟩ (fun hHeld => ?_); refine with_tabW larchref05_calls.tab8 larchref05_calls.bits8 (fun HT_ HW_ => ?_)
          generalize w28.drew = w29 at HO_3 HO_4 HB HR185_9 HR186_9 hx185_0 hx185_1 hx185_2 hx185_3 hx185_4 hx185_5 hx185_6 hx185_7 hx185_8 hx185_9 hx186_0 hx186_1 hx186_2 hx186_3 hx186_4 hx186_5 hx186_6 hx186_7 hx186_8 hx186_9 hHeld ⊢
          refine pure_ (i := 0) (N := some 29) (v := ?_) (a' := ?_) #[true,false,false,false,false,false,false,false,false,false,false,false,false,false,false,false] rfl rfl (aK HT_.out) (fun _ _ _ h => h) (Or.inl ⟨by rfl, ?_⟩) ?_ ?_
          rotate_left
          ·
           intro w'
           go_simp
           with_reducible rfl
          rotate_left
          ·
           simp only [Act.put, sp]
           rfl
          refine pure_ (i := 1) (N := some 30) (v := ?_) (a' := ?_) #[true,true,false,false,false,false,false,false,false,false,false,false,false,false,false,false] rfl rfl (aK HT_.out) (fun _ _ _ h => h) (Or.inl ⟨by rfl, ?_⟩) ?_ ?_
          rotate_left
          ·
           intro w'
           go_simp
           with_reducible rfl
          rotate_left
          ·
           simp only [Act.put, sp]
           rfl
          refine pure_ (i := 2) (N := some 31) (v := ?_) (a' := ?_) #[true,true,true,false,false,false,false,false,false,false,false,false,false,false,false,false] rfl rfl (aK HT_.out) (fun _ _ _ h => h) (Or.inl ⟨by rfl, ?_⟩) ?_ ?_
          rotate_left
          ·
           intro w'
           go_simp
           with_reducible rfl
          rotate_left
          ·
           simp only [Act.put, sp]
           rfl
          refine pure_ (i := 3) (N := some 32) (v := ?_) (a' := ?_) #[true,true,true,true,false,false,false,false,false,false,false,false,false,false,false,false] rfl rfl (aK HT_.out) (fun _ _ _ h => h) (Or.inl ⟨by rfl, ?_⟩) ?_ ?_
          rotate_left
          ·
           intro w'
           go_simp
           with_reducible rfl
          rotate_left
          ·
           simp only [Act.put, sp]
           rfl
          refine pure_ (i := 4) (N := some 33) (v := ?_) (a' := ?_) #[true,true,true,true,true,false,false,false,false,false,false,false,false,false,false,false] rfl rfl (aK HT_.out) (fun _ _ _ h => h) (Or.inl ⟨by rfl, ?_⟩) ?_ ?_
          rotate_left
          ·
           intro w'
           go_simp
           with_reducible rfl
          rotate_left
          ·
           simp only [Act.put, sp]
           rfl
          refine pure_ (i := 6) (N := some 35) (v := ?_) (a' := ?_) #[true,true,true,true,true,false,true,false,false,false,false,false,false,false,false,false] rfl rfl (aK HT_.out) (fun _ _ _ h => h) (Or.inl ⟨by rfl, ?_⟩) ?_ ?_
          rotate_left
          ·
           intro w'
           go_simp
           with_reducible rfl
          rotate_left
          ·
           simp only [Act.put, sp]
           rfl
          refine pure_ (i := 7) (N := some 36) (v := ?_) (a' := ?_) #[true,true,true,true,true,false,true,true,false,false,false,false,false,false,false,false] rfl rfl (aK HT_.out) (fun _ _ _ h => h) (Or.inl ⟨by rfl, ?_⟩) ?_ ?_
          rotate_left
          ·
           intro w'
           go_simp
           with_reducible rfl
          rotate_left
          ·
           simp only [Act.put, sp]
           rfl
          refine pure_ (i := 8) (N := some 37) (v := ?_) (a' := ?_) #[true,true,true,true,true,false,true,true,true,false,false,false,false,false,false,false] rfl rfl (aK HT_.out) (fun _ _ _ h => h) (Or.inl ⟨by rfl, ?_⟩) ?_ ?_
          rotate_left
          ·
           intro w'
           go_simp
           with_reducible rfl
          rotate_left
          ·
           simp only [Act.put, sp]
           rfl
          refine pure_ (i := 9) (N := some 38) (v := ?_) (a' := ?_) #[true,true,true,true,true,false,true,true,true,true,false,false,false,false,false,false] rfl rfl (aK HT_.out) (fun _ _ _ h => h) (Or.inl ⟨by rfl, ?_⟩) ?_ ?_
          rotate_left
          ·
           intro w'
           go_simp
           with_reducible rfl
          rotate_left
          ·
           simp only [Act.put, sp]
           rfl
          refine pure_ (i := 11) (N := some 40) (v := ?_) (a' := ?_) #[true,true,true,true,true,false,true,true,true,true,false,true,false,false,false,false] rfl rfl (aK HT_.out) (fun _ _ _ h => h) (Or.inl ⟨by rfl, ?_⟩) ?_ ?_
          rotate_left
          ·
           intro w'
           go_simp
           with_reducible rfl
          rotate_left
          ·
           simp only [Act.put, sp]
           rfl
          refine take_ (i := 5) (N := some 34) (v := ?_) (a' := ?_) #[true,true,true,true,true,true,true,true,true,true,false,true,false,false,false,false] rfl rfl (take_ofW HT_.out HW_.out (by kernel_rfl)) (fun _ _ _ h => h) (Or.inl ⟨by rfl, ?_⟩) hHeld ?_ ?_
          rotate_left
          ·
           rintro w' ⟨s0, s1, s2, s3, s4, s5, s6, s7, s8, s9, s10, s11, s12, s13, s14, s15, s16, s17, s18, s19⟩
           go_simp
           with_reducible rfl
          rotate_left
          ·
           simp only [Act.put, sp]
           rfl
          refine take_ (i := 10) (N := some 39) (v := ?_) (a' := ?_) #[true,true,true,true,true,true,true,true,true,true,true,true,false,false,false,false] rfl rfl (take_ofW HT_.out HW_.out (by kernel_rfl)) (fun _ _ _ h => h) (Or.inl ⟨by rfl, ?_⟩) hHeld ?_ ?_
          rotate_left
          ·
           rintro w' ⟨s0, s1, s2, s3, s4, s5, s6, s7, s8, s9, s10, s11, s12, s13, s14, s15, s16, s17, s18, s19⟩
           go_simp
           with_reducible rfl
          rotate_left
          ·
           simp only [Act.put, sp]
           rfl
          refine pure_ (i := 12) (N := some 41) (v := ?_) (a' := ?_) #[true,true,true,true,true,true,true,true,true,true,true,true,true,false,false,false] rfl rfl (aK HT_.out) (fun _ _ _ h => h) (Or.inl ⟨by rfl, ?_⟩) ?_ ?_
          rotate_left
          ·
           intro w'
           go_simp
           with_reducible rfl
          rotate_left
          ·
           simp only [Act.put, sp]
           rfl
          refine one_ (i := 13) (N := some 42) #[true,true,true,true,true,true,true,true,true,true,true,true,true,true,false,false] rfl rfl (one_of HT_.out (by kernel_rfl)) (by decide) (fun K hK => ?_)
          refine value_ (w1 := ?_) (v := ?_) (by rfl) rfl ?_ ?_
          rotate_left 2
          ·
           go_simp
           constructor
           ·
            rfl
           ·
            rfl
          refine hK.out _ _ ⟨(World.cell?_alloc_lt _ _ _ (World.block_lt_of_cell? _ _ ((skc HB.out hw185_0)))).trans ((skc HB.out hw185_0)), (World.cell?_alloc_lt _ _ _ (World.block_lt_of_cell? _ _ ((skc HB.out hw185_1)))).trans ((skc HB.out hw185_1)), (World.cell?_alloc_lt _ _ _ (World.block_lt_of_cell? _ _ ((skc HB.out hw185_2)))).trans ((skc HB.out hw185_2)), (World.cell?_alloc_lt _ _ _ (World.block_lt_of_cell? _ _ ((skc HB.out hw185_3)))).trans ((skc HB.out hw185_3)), (World.cell?_alloc_lt _ _ _ (World.block_lt_of_cell? _ _ ((skc HB.out hw185_4)))).trans ((skc HB.out hw185_4)), (World.cell?_alloc_lt _ _ _ (World.block_lt_of_cell? _ _ ((skc HB.out hw185_5)))).trans ((skc HB.out hw185_5)), (World.cell?_alloc_lt _ _ _ (World.block_lt_of_cell? _ _ ((skc HB.out hw185_6)))).trans ((skc HB.out hw185_6)), (World.cell?_alloc_lt _ _ _ (World.block_lt_of_cell? _ _ ((skc HB.out hw185_7)))).trans ((skc HB.out hw185_7)), (World.cell?_alloc_lt _ _ _ (World.block_lt_of_cell? _ _ ((skc HB.out hw185_8)))).trans ((skc HB.out hw185_8)), (World.cell?_alloc_lt _ _ _ (World.block_lt_of_cell? _ _ ((skc HB.out hw185_9)))).trans ((skc HB.out hw185_9)), (World.cell?_alloc_lt _ _ _ (World.block_lt_of_cell? _ _ ((skc HB.out hw186_0)))).trans ((skc HB.out hw186_0)), (World.cell?_alloc_lt _ _ _ (World.block_lt_of_cell? _ _ ((skc HB.out hw186_1)))).trans ((skc HB.out hw186_1)), (World.cell?_alloc_lt _ _ _ (World.block_lt_of_cell? _ _ ((skc HB.out hw186_2)))).trans ((skc HB.out hw186_2)), (World.cell?_alloc_lt _ _ _ (World.block_lt_of_cell? _ _ ((skc HB.out hw186_3)))).trans ((skc HB.out hw186_3)), (World.cell?_alloc_lt _ _ _ (World.block_lt_of_cell? _ _ ((skc HB.out hw186_4)))).trans ((skc HB.out hw186_4)), (World.cell?_alloc_lt _ _ _ (World.block_lt_of_cell? _ _ ((skc HB.out hw186_5)))).trans ((skc HB.out hw186_5)), (World.cell?_alloc_lt _ _ _ (World.block_lt_of_cell? _ _ ((skc HB.out hw186_6)))).trans ((skc HB.out hw186_6)), (World.cell?_alloc_lt _ _ _ (World.block_lt_of_cell? _ _ ((skc HB.out hw186_7)))).trans ((skc HB.out hw186_7)), (World.cell?_alloc_lt _ _ _ (World.block_lt_of_cell? _ _ ((skc HB.out hw186_8)))).trans ((skc HB.out hw186_8)), (World.cell?_alloc_lt _ _ _ (World.block_lt_of_cell? _ _ ((skc HB.out hw186_9)))).trans ((skc HB.out hw186_9))⟩ (fun hHeld => ?_)
          clear hK K
          refine norm_ (a' := ?_) ?_ ?_
          rotate_left
          ·
           show Act.put _ (some 42) _ = _
           simp only [Act.put, sp]
           rfl
          refine one_ (i := 14) (N := some 43) #[true,true,true,true,true,true,true,true,true,true,true,true,true,true,true,false] rfl rfl (one_of HT_.out (by kernel_rfl)) (by decide) (fun K hK => ?_)
          refine Kd.S_append_step k76 (w0 := w) w.heap.size (by rfl) (.tmp 29) (.tmp 42) 56 76 (.agg #[(.int .i64 0), (.int .i64 0), (.int .i64 0), (.int .i64 0), (.int .i64 0), (.bool false), (.int .i64 0), (.int .i64 0), (.slice none 0 0), (.int .i64 0), (.int .i64 0)]) 104 rfl Try.underlying56 info76 rfl (by decide) (by omega) (.slice Ao26 x3_1.length co26) x3_1 (⟨(J67 l0 x5_1).f0, (⟨(J67 l0 x5_1).f2.f0, (J67 l0 x5_1).f2.f1, (J67 l0 x5_1).f2.f2, (J67 l0 x5_1).f2.f3⟩ : S33), (⟨false, 0, 0, ([] : List (S70))⟩ : S36), x5_1, (-1)⟩ : S76) [.int .i64 ((J67 l0 x5_1).f0), .int .i64 ((J67 l0 x5_1).f2.f0), .int .i64 ((J67 l0 x5_1).f2.f1), .int .i64 ((J67 l0 x5_1).f2.f2), .int .i64 ((J67 l0 x5_1).f2.f3), .bool false, .int .i64 0, .int .i64 0, .slice none 0 0, .int .i64 x5_1, .int .i64 (-1)] (fun _ => True) (fun _ => False) rfl rfl ?aP (fun k_ hk_ => hk_.elim) ?aF ?aO ?aB ?aS ?aL ?_
          (case aP => exact k76_mkM _ _ _ (⟨(J67 l0 x5_1).f0, (⟨(J67 l0 x5_1).f2.f0, (J67 l0 x5_1).f2.f1, (J67 l0 x5_1).f2.f2, (J67 l0 x5_1).f2.f3⟩ : S33), (⟨false, 0, 0, ([] : List (S70))⟩ : S36), x5_1, (-1)⟩ : S76) (Kd.R_nil _ _ _ _ _))
          (case aB => exact (skB HB.out))
          (case aF => exact (fun _ _ => trivial))
          (case aO => exact (by (with_reducible repeat (first | apply Kd.S_alloc | apply Kd.S_drewN | apply Kd.S_drew)); exact Kd.S_mono HO_3.out (fun k_ hk => ⟨trivial, fun e_ => e_⟩)))
          (case aS => exact (below_size (skB HB.out)))
          (case aL => have := LMc25.out; omega)
          intro v188 w30 ho hb hg hat
          rw [← Ny187.out] at ho
          have n0_ := asd (Kd.R_over' (skR HO_4.out) (Kd.S_typed (by (with_reducible repeat (first | apply Kd.S_alloc | apply Kd.S_drewN | apply Kd.S_drew)); exact HO_3.out)) (by decide) hg)
          have n1_ := asd (hb)
          have n2_ := asd (ho)
          clear HO_4
          clear HB
          clear HO_3
          have HO_4 := n0_
          have HB := n1_
          have HO189 := n2_
          clear n0_ n1_ n2_
          clear ho hb hg hat
          refine hK.out _ _ ⟨(skc HB.out hw185_0), (skc HB.out hw185_1), (skc HB.out hw185_2), (skc HB.out hw185_3), (skc HB.out hw185_4), (skc HB.out hw185_5), (skc HB.out hw185_6), (skc HB.out hw185_7), (skc HB.out hw185_8), (skc HB.out hw185_9), (skc HB.out hw186_0), (skc HB.out hw186_1), (skc HB.out hw186_2), (skc HB.out hw186_3), (skc HB.out hw186_4), (skc HB.out hw186_5), (skc HB.out hw186_6), (skc HB.out hw186_7), (skc HB.out hw186_8), (skc HB.out hw186_9)⟩ (fun hHeld => ?_)
          clear hK K
          refine norm_ (a' := ?_) ?_ ?_
          rotate_left
          ·
           show Act.put _ (some 43) _ = _
           simp only [Act.put, sp]
           rfl
          refine pure_ (i := 15) (N := some 3) (v := ?_) (a' := ?_) #[true,true,true,true,true,true,true,true,true,true,true,true,true,true,true,true] rfl rfl (aK HT_.out) (fun _ _ _ h => h) (Or.inl ⟨by rfl, ?_⟩) ?_ ?_
          rotate_left
          ·
           intro w'
           go_simp
           with_reducible rfl
          rotate_left
          ·
           simp only [Act.put, sp]
           rfl
          refine done_ (done_of HT_.out (by kernel_rfl)) ?_
          try go_wp2
          go_roundg k1
          case measure => have := HK1.out; omega
          case rel => exact ⟨(y187), (y184), (wrap64 (x5_1 + 1)), rs, H', ⟨by have := HK1.out; omega⟩, ⟨by (with_reducible repeat (first | apply Kd.S_alloc | apply Kd.S_drewN | apply Kd.S_drew)); exact HO189.out⟩, ⟨skR HO_4.out⟩, ⟨skB HB.out⟩⟩
         ·
          rw [if_neg c25] at H
          exact absurd H (by simp)
        ·
         rw [if_neg c23] at H
         exact absurd H (by simp)
       ·
        rw [if_neg c22] at H
        exact absurd H (by simp)
     ·
      rw [if_neg c6] at H
      exact absurd H (by simp)
    ·
     rw [if_neg c5] at H
     have c5b0 : decide (x5_1 < (l0.length : Int)) = false := decide_eq_false c5
     clear c5
     obtain rfl := Option.some.inj H
     go_wp2
     go_ret
     exact ⟨_, re, by (with_reducible repeat (first | apply Kd.S_alloc | apply Kd.S_drewN | apply Kd.S_drew)); exact HO_3.out, skB HB.out⟩
 ·
  rw [if_neg c2] at H
  exact absurd H (by simp)
end Go.Proofs.Ytagdkmcgepidoaa.P
/- F23 -/
namespace Go.Proofs.Ytagdkmcgepidoaa.P
open Go.RowKit Go.Proofs.YtagdkmcgepidoaaW.PrintWords Go.Proofs.YtagdkmcgepidoaaW.PrintLast Go.Proofs.YtagdkmcgepidoaaW.PrintMore
attribute [local go_sem] max2_int min2_int max_two min_two max_three min_three max_four min_four   -- for this text's walks alone
set_option linter.unusedVariables false
set_option linter.unusedSimpArgs false
def larchref05_Calls.f (k : Nat) (l0 : List (S67)) : Option ((List (S76)) × Int) := (larchref05_Check.f k l0).bind fun t190 => (if t190 = 0 then ((larchref05_calls.f k l0).bind fun t191 => (some (t191, 0))) else (some (([] : List (S76)), t190)))
set_option maxHeartbeats 8000000 in
set_option maxRecDepth 100000 in
theorem larchref05_Calls.calls (k : Nat) (A0 : Option Addr) (c0 : Nat) (l0 : List (S67)) (r1 : List (S76)) (r2 : Int) (w : World) (hr0 : Kd.C k67 w A0 l0.length l0) (hc0 : l0.length ≤ c0) (h : larchref05_Calls.f k l0 = some (r1, r2)) :
  Calls Try.prog 38 #[.slice A0 l0.length c0] w fun e w' => ∃ v0_ : Value, e = .returned (.tuple #[v0_, .int .i64 r2]) ∧ Kd.S k76 76 w' w.heap.size (fun _ => True) v0_ r1 ∧ Below w.heap.size w w' := by
 have HR0 := asd hr0
 have HC0 := asd hc0
 clear hr0 hc0
 have HB := asd (Below.refl w.heap.size w)
 have H : ((larchref05_Check.f k l0).bind fun t190 => (if t190 = 0 then ((larchref05_calls.f k l0).bind fun t191 => (some (t191, 0))) else (some (([] : List (S76)), t190)))) = some (r1, r2) := h
 clear h
 replace H := Option.bind_eq_some_iff.mp H
 obtain ⟨t190, A20, H⟩ := H
 replace H : (if t190 = 0 then ((larchref05_calls.f k l0).bind fun t191 => (some (t191, 0))) else (some (([] : List (S76)), t190))) = some (r1, r2) := H
 have A2 := asd A20
 clear A20
 by_cases c3 : t190 = 0
 ·
  rw [if_pos c3] at H
  have c3b0 : (t190 == 0) = true := beq_iff_eq.mpr c3
  have c3b1 : (t190 != 0) = false := bne_eq_false_iff_eq.mpr c3
  clear c3
  replace H := Option.bind_eq_some_iff.mp H
  obtain ⟨t191, A40, H⟩ := H
  replace H : (some (t191, 0)) = some (r1, r2) := H
  have A4 := asd A40
  clear A40
  simp only [Option.some.injEq, Prod.mk.injEq] at H
  obtain ⟨rfl, rfl⟩ := H
  go_enter Try.func38, Try.ntmps38
  go_wp2_with (first | ((with_reducible refine gate_callee (f := 37) rfl ?_); refine goesL_ (some 6) rfl rfl Try.func37 (by kernel_rfl) rfl #[.slice A0 l0.length c0] rfl ags ?_; (with_reducible refine (larchref05_Check.calls k _ _ l0 t190 _ ?side1 ?side2 A2.out).mono ?_); (case side1 => exact skC HR0.out); (case side2 => exact HC0.out); rintro e w5 ⟨rfl, hb⟩; refine ⟨_, rfl, ?_⟩; have n0_ := asd (below_step (skB HB.out) hb); clear HB; have HB := n0_; clear n0_; (try clear hb); (try clear hb2); (try clear hk); (try clear hi)) | ((with_reducible refine gate_callee (f := 64) rfl ?_); refine goesL_ (some 11) rfl rfl Try.func64 (by kernel_rfl) rfl #[.slice A0 l0.length c0] rfl ags ?_; (with_reducible refine (larchref05_calls.calls k _ _ l0 t191 _ ?side1 ?side2 A4.out).mono ?_); (case side1 => exact skC (Kd.C_below HR0.out HB.out)); (case side2 => exact HC0.out); rintro e w6 ⟨v192, rfl, ho0, hb⟩; refine ⟨_, rfl, ?_⟩; have n0_ := asd (Kd.S_lower ho0 (below_size (skB HB.out))); have n1_ := asd (below_step (skB HB.out) hb); clear HB; have HO193 := n0_; have HB := n1_; clear n0_ n1_; (try clear hb); (try clear hb2); (try clear hk); (try clear hi); (try clear ho0)))
  go_ret2
  exact ⟨_, re, by (with_reducible repeat (first | apply Kd.S_alloc | apply Kd.S_drewN | apply Kd.S_drew)); exact HO193.out, skB HB.out⟩
 ·
  rw [if_neg c3] at H
  have c3b0 : (t190 == 0) = false := beq_eq_false_iff_ne.mpr c3
  have c3b1 : (t190 != 0) = true := bne_iff_ne.mpr c3
  simp only [Option.some.injEq, Prod.mk.injEq] at H
  obtain ⟨rfl, rfl⟩ := H
  go_enter Try.func38, Try.ntmps38
  go_wp2_with (first | ((with_reducible refine gate_callee (f := 37) rfl ?_); refine goesL_ (some 6) rfl rfl Try.func37 (by kernel_rfl) rfl #[.slice A0 l0.length c0] rfl ags ?_; (with_reducible refine (larchref05_Check.calls k _ _ l0 t190 _ ?side1 ?side2 A2.out).mono ?_); (case side1 => exact skC HR0.out); (case side2 => exact HC0.out); rintro e w7 ⟨rfl, hb⟩; refine ⟨_, rfl, ?_⟩; have n0_ := asd (below_step (skB HB.out) hb); clear HB; have HB := n0_; clear n0_; (try clear hb); (try clear hb2); (try clear hk); (try clear hi)))
  go_ret2
  exact ⟨_, re, by first | exact Kd.S_nil _ _ _ _ _ | exact Kd.N_nil _ _ _ _ _ | exact Kd.V_nil _ _ _ _ _ | exact Kd.Q_nil _ _ _ _ _ | exact Kd.R_nil _ _ _ _ _, skB HB.out⟩
end Go.Proofs.Ytagdkmcgepidoaa.P
/- F9 -/
namespace Go.Proofs.Ytagdkmcgepidoaa.P
open Go.RowKit Go.Proofs.YtagdkmcgepidoaaW.PrintWords Go.Proofs.YtagdkmcgepidoaaW.PrintLast Go.Proofs.YtagdkmcgepidoaaW.PrintMore
attribute [local go_sem] max2_int min2_int max_two min_two max_three min_three max_four min_four   -- for this text's walks alone
set_option linter.unusedVariables false
set_option linter.unusedSimpArgs false
def event_ahead.f (a0_0 : Int) (a0_1 : Int) (a0_2 : Int) (a0_3 : Int) (a0_4 : Int) (a0_5 : Bool) (a0_6 : Int) (a0_7 : Int) (l0_8 : List (S70)) (a0_9 : Int) (a0_10 : Int) (a1_0 : Int) (a1_1 : Int) (a1_2 : Int) (a1_3 : Int) (a1_4 : Int) (a1_5 : Bool) (a1_6 : Int) (a1_7 : Int) (l1_8 : List (S70)) (a1_9 : Int) (a1_10 : Int) : Option (Bool) := if a0_10 ≥ 0 then (some (decide (a0_10 < a1_9))) else (some false)
set_option maxHeartbeats 8000000 in
set_option maxRecDepth 100000 in
theorem event_ahead.calls (a0_0 : Int) (a0_1 : Int) (a0_2 : Int) (a0_3 : Int) (a0_4 : Int) (a0_5 : Bool) (a0_6 : Int) (a0_7 : Int) (A0_8 : Option Addr) (c0_8 : Nat) (l0_8 : List (S70)) (a0_9 : Int) (a0_10 : Int) (a1_0 : Int) (a1_1 : Int) (a1_2 : Int) (a1_3 : Int) (a1_4 : Int) (a1_5 : Bool) (a1_6 : Int) (a1_7 : Int) (A1_8 : Option Addr) (c1_8 : Nat) (l1_8 : List (S70)) (a1_9 : Int) (a1_10 : Int) (r : Bool) (w : World) (hr0_8 : Kd.C k70 w A0_8 l0_8.length l0_8) (hc0_8 : l0_8.length ≤ c0_8) (hr1_8 : Kd.C k70 w A1_8 l1_8.length l1_8) (hc1_8 : l1_8.length ≤ c1_8) (h : event_ahead.f a0_0 a0_1 a0_2 a0_3 a0_4 a0_5 a0_6 a0_7 l0_8 a0_9 a0_10 a1_0 a1_1 a1_2 a1_3 a1_4 a1_5 a1_6 a1_7 l1_8 a1_9 a1_10 = some r) :
  Calls Try.prog 47 #[.agg #[.int .i64 a0_0, .int .i64 a0_1, .int .i64 a0_2, .int .i64 a0_3, .int .i64 a0_4, .bool a0_5, .int .i64 a0_6, .int .i64 a0_7, .slice A0_8 l0_8.length c0_8, .int .i64 a0_9, .int .i64 a0_10], .agg #[.int .i64 a1_0, .int .i64 a1_1, .int .i64 a1_2, .int .i64 a1_3, .int .i64 a1_4, .bool a1_5, .int .i64 a1_6, .int .i64 a1_7, .slice A1_8 l1_8.length c1_8, .int .i64 a1_9, .int .i64 a1_10]] w fun e w' => e = .returned (.bool r) ∧ Below w.heap.size w w' := by
 have hu38 := Try.underlying38
 have HR0_8 := asd hr0_8
 have HC0_8 := asd hc0_8
 clear hr0_8 hc0_8
 have HR1_8 := asd hr1_8
 have HC1_8 := asd hc1_8
 clear hr1_8 hc1_8
 have HB := asd (Below.refl w.heap.size w)
 have H : (if a0_10 ≥ 0 then (some (decide (a0_10 < a1_9))) else (some false)) = some r := h
 clear h
 by_cases c3 : a0_10 ≥ 0
 ·
  rw [if_pos c3] at H
  have c3b0 : decide (0 ≤ a0_10) = true := decide_eq_true c3
  clear c3
  obtain rfl := Option.some.inj H
  go_enter Try.func47, Try.ntmps47
  go_wp2_with (first | ((with_reducible refine gate_dst (N := 2) rfl ?_); refine box_event ?hg (N := 2) ?hd (cs := #[.int .i64 a0_0, .int .i64 a0_1, .int .i64 a0_2, .int .i64 a0_3, .int .i64 a0_4, .bool a0_5, .int .i64 a0_6, .int .i64 a0_7, .slice A0_8 l0_8.length c0_8, .int .i64 a0_9, .int .i64 a0_10]) (t := 38) ?hr ?_; (case hd => rfl); (case hg => rfl); (case hr => first | (go_simp; done) | (go_simp; rfl)); intro gb111 hg w4 hbox hb; have n0_ := asd (below_step (skB HB.out) hb); have n1_ := asd (hbox); have n2_ := asd ((by rw [hg]; exact (below_size (skB HB.out)) : w.heap.size ≤ gb111)); have n3_ := asd ((by rw [hg]; exact (below_size (skB HB.out)) : w.heap.size ≤ gb111)); clear HB; have HB := n0_; have BK111 := n1_; have GW111 := n2_; have GE111 := n3_; clear n0_ n1_ n2_ n3_; clear hb hbox hg) | ((with_reducible refine gate_dst (N := 3) rfl ?_); refine box_event ?hg (N := 3) ?hd (cs := #[.int .i64 a1_0, .int .i64 a1_1, .int .i64 a1_2, .int .i64 a1_3, .int .i64 a1_4, .bool a1_5, .int .i64 a1_6, .int .i64 a1_7, .slice A1_8 l1_8.length c1_8, .int .i64 a1_9, .int .i64 a1_10]) (t := 38) ?hr ?_; (case hd => rfl); (case hg => rfl); (case hr => first | (go_simp; done) | (go_simp; rfl)); intro gb112 hg w5 hbox hb; have n0_ := asd (blk_below (g := gb111) (o := .cells #[.int .i64 a0_0, .int .i64 a0_1, .int .i64 a0_2, .int .i64 a0_3, .int .i64 a0_4, .bool a0_5, .int .i64 a0_6, .int .i64 a0_7, .slice A0_8 l0_8.length c0_8, .int .i64 a0_9, .int .i64 a0_10] 38 (0, 0)) (skK BK111.out) hb); have n1_ := asd (below_step (skG HB.out GE111.out GE111.out) hb); have n2_ := asd (hbox); have n3_ := asd ((by rw [hg]; exact (below_size (skG HB.out GE111.out GE111.out)) : w.heap.size ≤ gb112)); have n4_ := asd ((by rw [hg]; exact (below_size (skG HB.out GE111.out GE111.out)) : w.heap.size ≤ gb112)); have n5_ := asd ((by rw [hg]; exact Nat.ne_of_lt (blk_lt (g := gb111) (o := .cells #[.int .i64 a0_0, .int .i64 a0_1, .int .i64 a0_2, .int .i64 a0_3, .int .i64 a0_4, .bool a0_5, .int .i64 a0_6, .int .i64 a0_7, .slice A0_8 l0_8.length c0_8, .int .i64 a0_9, .int .i64 a0_10] 38 (0, 0)) (skK BK111.out)) : gb111 ≠ gb112)); have n6_ := asd ((by rw [hg]; exact Nat.ne_of_gt (blk_lt (g := gb111) (o := .cells #[.int .i64 a0_0, .int .i64 a0_1, .int .i64 a0_2, .int .i64 a0_3, .int .i64 a0_4, .bool a0_5, .int .i64 a0_6, .int .i64 a0_7, .slice A0_8 l0_8.length c0_8, .int .i64 a0_9, .int .i64 a0_10] 38 (0, 0)) (skK BK111.out)) : gb112 ≠ gb111)); clear BK111; clear HB; have BK111 := n0_; have HB := n1_; have BK112 := n2_; have GW112 := n3_; have GE112 := n4_; have NB111_112 := n5_; have NB112_111 := n6_; clear n0_ n1_ n2_ n3_ n4_ n5_ n6_; clear hb hbox hg; have hnb6 := NB111_112.out; have hnc6 := NB112_111.out; have hcz7_0 : w5.cell? ⟨gb111, 0, none⟩ = some (.int .i64 a0_0) := (blk_cell BK111.out 0).trans rfl; have hcz7_1 : w5.cell? ⟨gb111, 1, none⟩ = some (.int .i64 a0_1) := (blk_cell BK111.out 1).trans rfl; have hcz7_2 : w5.cell? ⟨gb111, 2, none⟩ = some (.int .i64 a0_2) := (blk_cell BK111.out 2).trans rfl; have hcz7_3 : w5.cell? ⟨gb111, 3, none⟩ = some (.int .i64 a0_3) := (blk_cell BK111.out 3).trans rfl; have hcz7_4 : w5.cell? ⟨gb111, 4, none⟩ = some (.int .i64 a0_4) := (blk_cell BK111.out 4).trans rfl; have hcz7_5 : w5.cell? ⟨gb111, 5, none⟩ = some (.bool a0_5) := (blk_cell BK111.out 5).trans rfl; have hcz7_6 : w5.cell? ⟨gb111, 6, none⟩ = some (.int .i64 a0_6) := (blk_cell BK111.out 6).trans rfl; have hcz7_7 : w5.cell? ⟨gb111, 7, none⟩ = some (.int .i64 a0_7) := (blk_cell BK111.out 7).trans rfl; have hcz7_8 : w5.cell? ⟨gb111, 8, none⟩ = some (.slice A0_8 l0_8.length c0_8) := (blk_cell BK111.out 8).trans rfl; have hcz7_9 : w5.cell? ⟨gb111, 9, none⟩ = some (.int .i64 a0_9) := (blk_cell BK111.out 9).trans rfl; have hcz7_10 : w5.cell? ⟨gb111, 10, none⟩ = some (.int .i64 a0_10) := (blk_cell BK111.out 10).trans rfl; have hfz7_0 := blk_frozen BK111.out 0; have hfz7_1 := blk_frozen BK111.out 1; have hfz7_2 := blk_frozen BK111.out 2; have hfz7_3 := blk_frozen BK111.out 3; have hfz7_4 := blk_frozen BK111.out 4; have hfz7_5 := blk_frozen BK111.out 5; have hfz7_6 := blk_frozen BK111.out 6; have hfz7_7 := blk_frozen BK111.out 7; have hfz7_8 := blk_frozen BK111.out 8; have hfz7_9 := blk_frozen BK111.out 9; have hfz7_10 := blk_frozen BK111.out 10; have hcz8_0 : w5.cell? ⟨gb112, 0, none⟩ = some (.int .i64 a1_0) := (blk_cell BK112.out 0).trans rfl; have hcz8_1 : w5.cell? ⟨gb112, 1, none⟩ = some (.int .i64 a1_1) := (blk_cell BK112.out 1).trans rfl; have hcz8_2 : w5.cell? ⟨gb112, 2, none⟩ = some (.int .i64 a1_2) := (blk_cell BK112.out 2).trans rfl; have hcz8_3 : w5.cell? ⟨gb112, 3, none⟩ = some (.int .i64 a1_3) := (blk_cell BK112.out 3).trans rfl; have hcz8_4 : w5.cell? ⟨gb112, 4, none⟩ = some (.int .i64 a1_4) := (blk_cell BK112.out 4).trans rfl; have hcz8_5 : w5.cell? ⟨gb112, 5, none⟩ = some (.bool a1_5) := (blk_cell BK112.out 5).trans rfl; have hcz8_6 : w5.cell? ⟨gb112, 6, none⟩ = some (.int .i64 a1_6) := (blk_cell BK112.out 6).trans rfl; have hcz8_7 : w5.cell? ⟨gb112, 7, none⟩ = some (.int .i64 a1_7) := (blk_cell BK112.out 7).trans rfl; have hcz8_8 : w5.cell? ⟨gb112, 8, none⟩ = some (.slice A1_8 l1_8.length c1_8) := (blk_cell BK112.out 8).trans rfl; have hcz8_9 : w5.cell? ⟨gb112, 9, none⟩ = some (.int .i64 a1_9) := (blk_cell BK112.out 9).trans rfl; have hcz8_10 : w5.cell? ⟨gb112, 10, none⟩ = some (.int .i64 a1_10) := (blk_cell BK112.out 10).trans rfl; have hfz8_0 := blk_frozen BK112.out 0; have hfz8_1 := blk_frozen BK112.out 1; have hfz8_2 := blk_frozen BK112.out 2; have hfz8_3 := blk_frozen BK112.out 3; have hfz8_4 := blk_frozen BK112.out 4; have hfz8_5 := blk_frozen BK112.out 5; have hfz8_6 := blk_frozen BK112.out 6; have hfz8_7 := blk_frozen BK112.out 7; have hfz8_8 := blk_frozen BK112.out 8; have hfz8_9 := blk_frozen BK112.out 9; have hfz8_10 := blk_frozen BK112.out 10))
  go_ret
  exact ⟨re, skG HB.out GE111.out GE112.out⟩
 ·
  rw [if_neg c3] at H
  have c3b0 : decide (0 ≤ a0_10) = false := decide_eq_false c3
  clear c3
  obtain rfl := Option.some.inj H
  go_enter Try.func47, Try.ntmps47
  go_wp2_with (first | ((with_reducible refine gate_dst (N := 2) rfl ?_); refine box_event ?hg (N := 2) ?hd (cs := #[.int .i64 a0_0, .int .i64 a0_1, .int .i64 a0_2, .int .i64 a0_3, .int .i64 a0_4, .bool a0_5, .int .i64 a0_6, .int .i64 a0_7, .slice A0_8 l0_8.length c0_8, .int .i64 a0_9, .int .i64 a0_10]) (t := 38) ?hr ?_; (case hd => rfl); (case hg => rfl); (case hr => first | (go_simp; done) | (go_simp; rfl)); intro gb111 hg w9 hbox hb; have n0_ := asd (below_step (skB HB.out) hb); have n1_ := asd (hbox); have n2_ := asd ((by rw [hg]; exact (below_size (skB HB.out)) : w.heap.size ≤ gb111)); have n3_ := asd ((by rw [hg]; exact (below_size (skB HB.out)) : w.heap.size ≤ gb111)); clear HB; have HB := n0_; have BK111 := n1_; have GW111 := n2_; have GE111 := n3_; clear n0_ n1_ n2_ n3_; clear hb hbox hg) | ((with_reducible refine gate_dst (N := 3) rfl ?_); refine box_event ?hg (N := 3) ?hd (cs := #[.int .i64 a1_0, .int .i64 a1_1, .int .i64 a1_2, .int .i64 a1_3, .int .i64 a1_4, .bool a1_5, .int .i64 a1_6, .int .i64 a1_7, .slice A1_8 l1_8.length c1_8, .int .i64 a1_9, .int .i64 a1_10]) (t := 38) ?hr ?_; (case hd => rfl); (case hg => rfl); (case hr => first | (go_simp; done) | (go_simp; rfl)); intro gb112 hg w10 hbox hb; have n0_ := asd (blk_below (g := gb111) (o := .cells #[.int .i64 a0_0, .int .i64 a0_1, .int .i64 a0_2, .int .i64 a0_3, .int .i64 a0_4, .bool a0_5, .int .i64 a0_6, .int .i64 a0_7, .slice A0_8 l0_8.length c0_8, .int .i64 a0_9, .int .i64 a0_10] 38 (0, 0)) (skK BK111.out) hb); have n1_ := asd (below_step (skG HB.out GE111.out GE111.out) hb); have n2_ := asd (hbox); have n3_ := asd ((by rw [hg]; exact (below_size (skG HB.out GE111.out GE111.out)) : w.heap.size ≤ gb112)); have n4_ := asd ((by rw [hg]; exact (below_size (skG HB.out GE111.out GE111.out)) : w.heap.size ≤ gb112)); have n5_ := asd ((by rw [hg]; exact Nat.ne_of_lt (blk_lt (g := gb111) (o := .cells #[.int .i64 a0_0, .int .i64 a0_1, .int .i64 a0_2, .int .i64 a0_3, .int .i64 a0_4, .bool a0_5, .int .i64 a0_6, .int .i64 a0_7, .slice A0_8 l0_8.length c0_8, .int .i64 a0_9, .int .i64 a0_10] 38 (0, 0)) (skK BK111.out)) : gb111 ≠ gb112)); have n6_ := asd ((by rw [hg]; exact Nat.ne_of_gt (blk_lt (g := gb111) (o := .cells #[.int .i64 a0_0, .int .i64 a0_1, .int .i64 a0_2, .int .i64 a0_3, .int .i64 a0_4, .bool a0_5, .int .i64 a0_6, .int .i64 a0_7, .slice A0_8 l0_8.length c0_8, .int .i64 a0_9, .int .i64 a0_10] 38 (0, 0)) (skK BK111.out)) : gb112 ≠ gb111)); clear BK111; clear HB; have BK111 := n0_; have HB := n1_; have BK112 := n2_; have GW112 := n3_; have GE112 := n4_; have NB111_112 := n5_; have NB112_111 := n6_; clear n0_ n1_ n2_ n3_ n4_ n5_ n6_; clear hb hbox hg; have hnb11 := NB111_112.out; have hnc11 := NB112_111.out; have hcz12_0 : w10.cell? ⟨gb111, 0, none⟩ = some (.int .i64 a0_0) := (blk_cell BK111.out 0).trans rfl; have hcz12_1 : w10.cell? ⟨gb111, 1, none⟩ = some (.int .i64 a0_1) := (blk_cell BK111.out 1).trans rfl; have hcz12_2 : w10.cell? ⟨gb111, 2, none⟩ = some (.int .i64 a0_2) := (blk_cell BK111.out 2).trans rfl; have hcz12_3 : w10.cell? ⟨gb111, 3, none⟩ = some (.int .i64 a0_3) := (blk_cell BK111.out 3).trans rfl; have hcz12_4 : w10.cell? ⟨gb111, 4, none⟩ = some (.int .i64 a0_4) := (blk_cell BK111.out 4).trans rfl; have hcz12_5 : w10.cell? ⟨gb111, 5, none⟩ = some (.bool a0_5) := (blk_cell BK111.out 5).trans rfl; have hcz12_6 : w10.cell? ⟨gb111, 6, none⟩ = some (.int .i64 a0_6) := (blk_cell BK111.out 6).trans rfl; have hcz12_7 : w10.cell? ⟨gb111, 7, none⟩ = some (.int .i64 a0_7) := (blk_cell BK111.out 7).trans rfl; have hcz12_8 : w10.cell? ⟨gb111, 8, none⟩ = some (.slice A0_8 l0_8.length c0_8) := (blk_cell BK111.out 8).trans rfl; have hcz12_9 : w10.cell? ⟨gb111, 9, none⟩ = some (.int .i64 a0_9) := (blk_cell BK111.out 9).trans rfl; have hcz12_10 : w10.cell? ⟨gb111, 10, none⟩ = some (.int .i64 a0_10) := (blk_cell BK111.out 10).trans rfl; have hfz12_0 := blk_frozen BK111.out 0; have hfz12_1 := blk_frozen BK111.out 1; have hfz12_2 := blk_frozen BK111.out 2; have hfz12_3 := blk_frozen BK111.out 3; have hfz12_4 := blk_frozen BK111.out 4; have hfz12_5 := blk_frozen BK111.out 5; have hfz12_6 := blk_frozen BK111.out 6; have hfz12_7 := blk_frozen BK111.out 7; have hfz12_8 := blk_frozen BK111.out 8; have hfz12_9 := blk_frozen BK111.out 9; have hfz12_10 := blk_frozen BK111.out 10))
  go_ret
  exact ⟨re, skG HB.out GE111.out GE112.out⟩
end Go.Proofs.Ytagdkmcgepidoaa.P
/- F14 -/
namespace Go.Proofs.Ytagdkmcgepidoaa.P
open Go.RowKit Go.Proofs.YtagdkmcgepidoaaW.PrintWords Go.Proofs.YtagdkmcgepidoaaW.PrintLast Go.Proofs.YtagdkmcgepidoaaW.PrintMore
attribute [local go_sem] max2_int min2_int max_two min_two max_three min_three max_four min_four   -- for this text's walks alone
set_option linter.unusedVariables false
set_option linter.unusedSimpArgs false
def larchlaw05_sample.f  : Option ((List (S67))) := some (([(⟨0, false, (⟨1, 5, 0, 0⟩ : S33), (⟨false, 0, 0, ([] : List (S70))⟩ : S36)⟩ : S67), (⟨1, false, (⟨2, 5, 7, 0⟩ : S33), (⟨false, 0, 0, ([] : List (S70))⟩ : S36)⟩ : S67), (⟨1, true, (⟨2, 5, 7, 0⟩ : S33), (⟨false, 0, 0, ([] : List (S70))⟩ : S36)⟩ : S67), (⟨0, true, (⟨1, 5, 0, 0⟩ : S33), (⟨true, 0, 7, ([] : List (S70))⟩ : S36)⟩ : S67)] : List (S67)))
set_option maxHeartbeats 8000000 in
set_option maxRecDepth 100000 in
theorem larchlaw05_sample.calls  (r : List (S67)) (w : World) (h : larchlaw05_sample.f  = some r) :
  Calls Try.prog 45 #[] w fun e w' => ∃ v0_ : Value, e = .returned (v0_) ∧ Kd.S k67 67 w' w.heap.size (fun _ => True) v0_ r ∧ Below w.heap.size w w' := by
 have hu33 := Try.underlying33
 have hu67 := Try.underlying67
 have hu36 := Try.underlying36
 have HB := asd (Below.refl w.heap.size w)
 have H : (some (([(⟨0, false, (⟨1, 5, 0, 0⟩ : S33), (⟨false, 0, 0, ([] : List (S70))⟩ : S36)⟩ : S67), (⟨1, false, (⟨2, 5, 7, 0⟩ : S33), (⟨false, 0, 0, ([] : List (S70))⟩ : S36)⟩ : S67), (⟨1, true, (⟨2, 5, 7, 0⟩ : S33), (⟨false, 0, 0, ([] : List (S70))⟩ : S36)⟩ : S67), (⟨0, true, (⟨1, 5, 0, 0⟩ : S33), (⟨true, 0, 7, ([] : List (S70))⟩ : S36)⟩ : S67)] : List (S67)))) = some r := h
 clear h
 obtain ⟨y122, hy122⟩ : ∃ y_ : List (S67), y_ = (([(⟨0, false, (⟨1, 5, 0, 0⟩ : S33), (⟨false, 0, 0, ([] : List (S70))⟩ : S36)⟩ : S67), (⟨1, false, (⟨2, 5, 7, 0⟩ : S33), (⟨false, 0, 0, ([] : List (S70))⟩ : S36)⟩ : S67), (⟨1, true, (⟨2, 5, 7, 0⟩ : S33), (⟨false, 0, 0, ([] : List (S70))⟩ : S36)⟩ : S67), (⟨0, true, (⟨1, 5, 0, 0⟩ : S33), (⟨true, 0, 7, ([] : List (S70))⟩ : S36)⟩ : S67)] : List (S67))) := ⟨_, rfl⟩
 replace H : (some y122) = some r := by first | (rw [hy122]; with_reducible exact H) | (have H2_ := (Option.bind_some _ _).symm.trans H; rw [hy122]; with_reducible exact H2_) | (have H2_ := (Option.bind_some _ _).symm.trans H; with_reducible exact H2_) | with_reducible exact H | (rw [hy122]; exact H) | exact H
 have Ny122 := asd hy122
 clear hy122
 obtain rfl := Option.some.inj H
 go_enter Try.func45, Try.ntmps45
 go_wp2_with (first | ((with_reducible refine gate_dst (N := 1) rfl ?_); refine box_event ?hg (N := 1) ?hd (cs := #[.int .i64 0, .int .i64 0, .int .i64 0, .int .i64 0]) (t := 33) ?hr ?_; (case hd => rfl); (case hg => rfl); (case hr => first | (go_simp; done) | (go_simp; rfl)); intro gb120 hg w1 hbox hb; have n0_ := asd (below_step (skB HB.out) hb); have n1_ := asd (hbox); have n2_ := asd ((by rw [hg]; exact (below_size (skB HB.out)) : w.heap.size ≤ gb120)); have n3_ := asd ((by rw [hg]; exact (below_size (skB HB.out)) : w.heap.size ≤ gb120)); clear HB; have HB := n0_; have BK120 := n1_; have GW120 := n2_; have GE120 := n3_; clear n0_ n1_ n2_ n3_; clear hb hbox hg) | ((with_reducible refine gate_dst (N := 2) rfl ?_); refine box_event ?hg (N := 2) ?hd (cs := #[.int .i64 0, .int .i64 0, .int .i64 0, .int .i64 0]) (t := 33) ?hr ?_; (case hd => rfl); (case hg => rfl); (case hr => first | (go_simp; done) | (go_simp; rfl)); intro gb121 hg w2 hbox hb; have n0_ := asd (blk_below (g := gb120) (o := .cells #[.int .i64 0, .int .i64 0, .int .i64 0, .int .i64 0] 33 (0, 0)) (skK BK120.out) hb); have n1_ := asd (below_step (skG HB.out GE120.out GE120.out) hb); have n2_ := asd (hbox); have n3_ := asd ((by rw [hg]; exact (below_size (skG HB.out GE120.out GE120.out)) : w.heap.size ≤ gb121)); have n4_ := asd ((by rw [hg]; exact (below_size (skG HB.out GE120.out GE120.out)) : w.heap.size ≤ gb121)); have n5_ := asd ((by rw [hg]; exact Nat.ne_of_lt (blk_lt (g := gb120) (o := .cells #[.int .i64 0, .int .i64 0, .int .i64 0, .int .i64 0] 33 (0, 0)) (skK BK120.out)) : gb120 ≠ gb121)); have n6_ := asd ((by rw [hg]; exact Nat.ne_of_gt (blk_lt (g := gb120) (o := .cells #[.int .i64 0, .int .i64 0, .int .i64 0, .int .i64 0] 33 (0, 0)) (skK BK120.out)) : gb121 ≠ gb120)); clear BK120; clear HB; have BK120 := n0_; have HB := n1_; have BK121 := n2_; have GW121 := n3_; have GE121 := n4_; have NB120_121 := n5_; have NB121_120 := n6_; clear n0_ n1_ n2_ n3_ n4_ n5_ n6_; clear hb hbox hg; have hnb3 := NB120_121.out; have hnc3 := NB121_120.out; obtain ⟨hcz4_0, hcz4_1, hcz4_2, hcz4_3, hfz4_0, hfz4_1, hfz4_2, hfz4_3⟩ := bk4 BK120.out; obtain ⟨hcz5_0, hcz5_1, hcz5_2, hcz5_3, hfz5_0, hfz5_1, hfz5_2, hfz5_3⟩ := bk4 BK121.out) | ((with_reducible refine gate_dst (N := 14) rfl ?_); refine Kd.S_lit k67 _ 67 ?hg (N := 14) ?hd (xs := ([(⟨0, false, (⟨1, 5, 0, 0⟩ : S33), (⟨false, 0, 0, ([] : List (S70))⟩ : S36)⟩ : S67), (⟨1, false, (⟨2, 5, 7, 0⟩ : S33), (⟨false, 0, 0, ([] : List (S70))⟩ : S36)⟩ : S67), (⟨1, true, (⟨2, 5, 7, 0⟩ : S33), (⟨false, 0, 0, ([] : List (S70))⟩ : S36)⟩ : S67), (⟨0, true, (⟨1, 5, 0, 0⟩ : S33), (⟨true, 0, 7, ([] : List (S70))⟩ : S36)⟩ : S67)] : List (S67))) (inner := [.int .i64 0, .bool false, .int .i64 1, .int .i64 5, .int .i64 0, .int .i64 0, .bool false, .int .i64 0, .int .i64 0, .slice none 0 0, .int .i64 1, .bool false, .int .i64 2, .int .i64 5, .int .i64 7, .int .i64 0, .bool false, .int .i64 0, .int .i64 0, .slice none 0 0, .int .i64 1, .bool true, .int .i64 2, .int .i64 5, .int .i64 7, .int .i64 0, .bool false, .int .i64 0, .int .i64 0, .slice none 0 0, .int .i64 0, .bool true, .int .i64 1, .int .i64 5, .int .i64 0, .int .i64 0, .bool true, .int .i64 0, .int .i64 7, .slice none 0 0]) (ok := fun _ => True) (okp := fun _ => True) ?hr ?hp (fun _ hk => hk) trivial (Below.refl _ _) (Nat.le_refl _) (by simp) ?_; (case hd => rfl); (case hg => rfl); (case hr => first | (go_simp; done) | (go_simp; rfl)); (case hp => exact (Reps.c10 (show Kd.M k67 _ _ _ (⟨0, false, (⟨1, 5, 0, 0⟩ : S33), (⟨false, 0, 0, ([] : List (S70))⟩ : S36)⟩ : S67) [.int .i64 0, .bool false, .int .i64 1, .int .i64 5, .int .i64 0, .int .i64 0, .bool false, .int .i64 0, .int .i64 0, .slice none 0 0] from (k67_mkM _ _ _ (⟨0, false, (⟨1, 5, 0, 0⟩ : S33), (⟨false, 0, 0, ([] : List (S70))⟩ : S36)⟩ : S67) (Kd.R_nil _ _ _ _ _))) (Reps.c10 (show Kd.M k67 _ _ _ (⟨1, false, (⟨2, 5, 7, 0⟩ : S33), (⟨false, 0, 0, ([] : List (S70))⟩ : S36)⟩ : S67) [.int .i64 1, .bool false, .int .i64 2, .int .i64 5, .int .i64 7, .int .i64 0, .bool false, .int .i64 0, .int .i64 0, .slice none 0 0] from (k67_mkM _ _ _ (⟨1, false, (⟨2, 5, 7, 0⟩ : S33), (⟨false, 0, 0, ([] : List (S70))⟩ : S36)⟩ : S67) (Kd.R_nil _ _ _ _ _))) (Reps.c10 (show Kd.M k67 _ _ _ (⟨1, true, (⟨2, 5, 7, 0⟩ : S33), (⟨false, 0, 0, ([] : List (S70))⟩ : S36)⟩ : S67) [.int .i64 1, .bool true, .int .i64 2, .int .i64 5, .int .i64 7, .int .i64 0, .bool false, .int .i64 0, .int .i64 0, .slice none 0 0] from (k67_mkM _ _ _ (⟨1, true, (⟨2, 5, 7, 0⟩ : S33), (⟨false, 0, 0, ([] : List (S70))⟩ : S36)⟩ : S67) (Kd.R_nil _ _ _ _ _))) (Reps.c10 (show Kd.M k67 _ _ _ (⟨0, true, (⟨1, 5, 0, 0⟩ : S33), (⟨true, 0, 7, ([] : List (S70))⟩ : S36)⟩ : S67) [.int .i64 0, .bool true, .int .i64 1, .int .i64 5, .int .i64 0, .int .i64 0, .bool true, .int .i64 0, .int .i64 7, .slice none 0 0] from (k67_mkM _ _ _ (⟨0, true, (⟨1, 5, 0, 0⟩ : S33), (⟨true, 0, 7, ([] : List (S70))⟩ : S36)⟩ : S67) (Kd.R_nil _ _ _ _ _))) (Reps.none _ _)))))); intro v123 w6 ho7 hb hg_ hnew_; clear hg_ hnew_; (first | rw [← Ny122.out] at ho7 | (simp only [Int.reduceToNat] at ho7; rw [← Ny122.out] at ho7)); have n0_ := asd (Kd.S_lower ho7 (below_size (skG HB.out GE120.out GE121.out))); have n1_ := asd (blk_below (g := gb120) (o := .cells #[.int .i64 1, .int .i64 5, .int .i64 0, .int .i64 0] 33 (0, 0)) (by refine skk ?_; refine blk_far ?_ NB120_121.out _; refine skk ?_; refine blk_far ?_ NB120_121.out _; refine skk ?_; refine blk_far ?_ NB120_121.out _; refine skk ?_; refine blk_far ?_ NB120_121.out _; refine skk ?_; refine blk_put (cs := #[.int .i64 1, .int .i64 5, .int .i64 0, .int .i64 0]) ?_ 3 _ rfl; refine skk ?_; refine blk_put (cs := #[.int .i64 1, .int .i64 5, .int .i64 0, .int .i64 0]) ?_ 2 _ rfl; refine skk ?_; refine blk_put (cs := #[.int .i64 1, .int .i64 0, .int .i64 0, .int .i64 0]) ?_ 1 _ rfl; refine skk ?_; refine blk_put (cs := #[.int .i64 0, .int .i64 0, .int .i64 0, .int .i64 0]) ?_ 0 _ rfl; refine skk ?_; exact BK120.out) hb); have n2_ := asd (blk_below (g := gb121) (o := .cells #[.int .i64 2, .int .i64 5, .int .i64 7, .int .i64 0] 33 (0, 0)) (by refine skk ?_; refine blk_put (cs := #[.int .i64 2, .int .i64 5, .int .i64 7, .int .i64 0]) ?_ 3 _ rfl; refine skk ?_; refine blk_put (cs := #[.int .i64 2, .int .i64 5, .int .i64 0, .int .i64 0]) ?_ 2 _ rfl; refine skk ?_; refine blk_put (cs := #[.int .i64 2, .int .i64 0, .int .i64 0, .int .i64 0]) ?_ 1 _ rfl; refine skk ?_; refine blk_put (cs := #[.int .i64 0, .int .i64 0, .int .i64 0, .int .i64 0]) ?_ 0 _ rfl; refine skk ?_; refine blk_far ?_ NB121_120.out _; refine skk ?_; refine blk_far ?_ NB121_120.out _; refine skk ?_; refine blk_far ?_ NB121_120.out _; refine skk ?_; refine blk_far ?_ NB121_120.out _; refine skk ?_; exact BK121.out) hb); have n3_ := asd (below_step (skG HB.out GE120.out GE121.out) hb); clear BK120; clear BK121; clear HB; have HO124 := n0_; have BK120 := n1_; have BK121 := n2_; have HB := n3_; clear n0_ n1_ n2_ n3_; clear hb ho7))
 go_ret
 exact ⟨_, re, by (with_reducible repeat (first | apply Kd.S_alloc | apply Kd.S_drewN | apply Kd.S_drew)); exact HO124.out, skG HB.out GE120.out GE121.out⟩
end Go.Proofs.Ytagdkmcgepidoaa.P
/- F24 -/
namespace Go.Proofs.Ytagdkmcgepidoaa.P
open Go.RowKit Go.Proofs.YtagdkmcgepidoaaW.PrintWords Go.Proofs.YtagdkmcgepidoaaW.PrintLast Go.Proofs.YtagdkmcgepidoaaW.PrintMore
attribute [local go_sem] max2_int min2_int max_two min_two max_three min_three max_four min_four   -- for this text's walks alone
set_option linter.unusedVariables false
set_option linter.unusedSimpArgs false
def larchref05_before.f (l0 : List (S76)) (a1 : Int) (a2 : Int) : Option (Bool) := if 0 ≤ a1 then (if a1 < (l0.length : Int) then (if ((J76 l0 a1).f4) = (-1) then (some false) else (if 0 ≤ a2 then (if a2 < (l0.length : Int) then (some (decide (((J76 l0 a1).f4) < ((J76 l0 a2).f3)))) else (none)) else (none))) else (none)) else (none)
set_option maxHeartbeats 8000000 in
set_option maxRecDepth 100000 in
theorem larchref05_before.calls (A0 : Option Addr) (c0 : Nat) (l0 : List (S76)) (a1 : Int) (a2 : Int) (r : Bool) (w : World) (hr0 : Kd.C k76 w A0 l0.length l0) (hc0 : l0.length ≤ c0) (h : larchref05_before.f l0 a1 a2 = some r) :
  Calls Try.prog 49 #[.slice A0 l0.length c0, .int .i64 a1, .int .i64 a2] w fun e w' => e = .returned (.bool r) ∧ Drawn0 w w' := by
 have HR0 := asd hr0
 have HC0 := asd hc0
 clear hr0 hc0
 have H : (if 0 ≤ a1 then (if a1 < (l0.length : Int) then (if ((J76 l0 a1).f4) = (-1) then (some false) else (if 0 ≤ a2 then (if a2 < (l0.length : Int) then (some (decide (((J76 l0 a1).f4) < ((J76 l0 a2).f3)))) else (none)) else (none))) else (none)) else (none)) = some r := h
 clear h
 by_cases c4 : 0 ≤ a1
 ·
  rw [if_pos c4] at H
  have c4b0 : decide (0 ≤ a1) = true := decide_eq_true c4
  clear c4
  by_cases c5 : a1 < (l0.length : Int)
  ·
   rw [if_pos c5] at H
   have c5b0 : decide (a1 < (l0.length : Int)) = true := decide_eq_true c5
   clear c5
   by_cases c6 : ((J76 l0 a1).f4) = (-1)
   ·
    rw [if_pos c6] at H
    have c6b0 : (((J76 l0 a1).f4) == (-1)) = true := beq_iff_eq.mpr c6
    have c6b1 : (((J76 l0 a1).f4) != (-1)) = false := bne_eq_false_iff_eq.mpr c6
    clear c6
    obtain rfl := Option.some.inj H
    have p194 : 0 ≤ (a1 : Int) := dt
    have q194 : a1 < (l0.length : Int) := dt
    obtain ⟨ad194, A194_8, c194_8, e194, hx194_0, hx194_1, hx194_2, hx194_3, hx194_4, hx194_5, hx194_6, hx194_7, hx194_8, hx194_9, hx194_10, hl194_8, hi194_8⟩ := at_T76 HR0.out a1 p194 q194
    cases e194
    have HR194_8 := asd hi194_8
    have HC194_8 := asd hl194_8
    clear hi194_8 hl194_8
    replace p194 := eq_true p194
    replace q194 := eq_true q194
    go_enter Try.func49, Try.ntmps49
    go_wp2
    repeat (go_quiet (fail); try go_wp2)
    go_ret
    exact ⟨by first | rfl | (simp; done) | (simp [*]; done), by repeat (first | exact Drawn0.refl _ | apply Drawn0.step)⟩
   ·
    rw [if_neg c6] at H
    have c6b0 : (((J76 l0 a1).f4) == (-1)) = false := beq_eq_false_iff_ne.mpr c6
    have c6b1 : (((J76 l0 a1).f4) != (-1)) = true := bne_iff_ne.mpr c6
    by_cases c7 : 0 ≤ a2
    ·
     rw [if_pos c7] at H
     have c7b0 : decide (0 ≤ a2) = true := decide_eq_true c7
     clear c7
     by_cases c8 : a2 < (l0.length : Int)
     ·
      rw [if_pos c8] at H
      have c8b0 : decide (a2 < (l0.length : Int)) = true := decide_eq_true c8
      clear c8
      obtain rfl := Option.some.inj H
      have p194 : 0 ≤ (a1 : Int) := dt
      have q194 : a1 < (l0.length : Int) := dt
      obtain ⟨ad194, A194_8, c194_8, e194, hx194_0, hx194_1, hx194_2, hx194_3, hx194_4, hx194_5, hx194_6, hx194_7, hx194_8, hx194_9, hx194_10, hl194_8, hi194_8⟩ := at_T76 HR0.out a1 p194 q194
      cases e194
      have HR194_8 := asd hi194_8
      have HC194_8 := asd hl194_8
      clear hi194_8 hl194_8
      replace p194 := eq_true p194
      replace q194 := eq_true q194
      have p195 : 0 ≤ (a1 : Int) := dt
      have q195 : a1 < (l0.length : Int) := dt
      obtain ⟨ad195, A195_8, c195_8, e195, hx195_0, hx195_1, hx195_2, hx195_3, hx195_4, hx195_5, hx195_6, hx195_7, hx195_8, hx195_9, hx195_10, hl195_8, hi195_8⟩ := at_T76 HR0.out a1 p195 q195
      obtain rfl : ad194 = ad195 := (by injection e195)
      have HR195_8 := asd hi195_8
      have HC195_8 := asd hl195_8
      clear hi195_8 hl195_8
      replace p195 := eq_true p195
      replace q195 := eq_true q195
      have ea_ := Option.some.inj (hx194_8.symm.trans hx195_8)
      injection ea_ with ea_ en_ ec_
      subst ea_
      subst ec_
      clear en_
      have p196 : 0 ≤ (a2 : Int) := dt
      have q196 : a2 < (l0.length : Int) := dt
      obtain ⟨ad196, A196_8, c196_8, e196, hx196_0, hx196_1, hx196_2, hx196_3, hx196_4, hx196_5, hx196_6, hx196_7, hx196_8, hx196_9, hx196_10, hl196_8, hi196_8⟩ := at_T76 HR0.out a2 p196 q196
      obtain rfl : ad194 = ad196 := (by injection e196)
      have HR196_8 := asd hi196_8
      have HC196_8 := asd hl196_8
      clear hi196_8 hl196_8
      replace p196 := eq_true p196
      replace q196 := eq_true q196
      go_enter Try.func49, Try.ntmps49
      go_wp2
      repeat (go_quiet (fail); try go_wp2)
      go_ret
      exact ⟨by first | rfl | (simp; done) | (simp [*]; done), by repeat (first | exact Drawn0.refl _ | apply Drawn0.step)⟩
     ·
      rw [if_neg c8] at H
      exact absurd H (by simp)
    ·
     rw [if_neg c7] at H
     exact absurd H (by simp)
  ·
   rw [if_neg c5] at H
   exact absurd H (by simp)
 ·
  rw [if_neg c4] at H
  exact absurd H (by simp)
end Go.Proofs.Ytagdkmcgepidoaa.P
/- F25 -/
namespace Go.Proofs.Ytagdkmcgepidoaa.P
open Go.RowKit Go.Proofs.YtagdkmcgepidoaaW.PrintWords Go.Proofs.YtagdkmcgepidoaaW.PrintLast Go.Proofs.YtagdkmcgepidoaaW.PrintMore
attribute [local go_sem] max2_int min2_int max_two min_two max_three min_three max_four min_four   -- for this text's walks alone
set_option linter.unusedVariables false
set_option linter.unusedSimpArgs false
def larchref05_Ahead.f (k : Nat) (l0 : List (S67)) (a1 : Int) (a2 : Int) : Option (Bool × Int) := (larchref05_Calls.f k l0).bind fun bt197 => (if bt197.2 = 0 then (if a1 < 0 then (some (false, 1)) else (if a1 ≥ (bt197.1.length : Int) then (some (false, 1)) else (if a2 < 0 then (some (false, 1)) else (if a2 ≥ (bt197.1.length : Int) then (some (false, 1)) else ((larchref05_before.f bt197.1 a1 a2).bind fun t201 => (some (t201, 0))))))) else (some (false, bt197.2)))
set_option maxHeartbeats 8000000 in
set_option maxRecDepth 100000 in
theorem larchref05_Ahead.calls (k : Nat) (A0 : Option Addr) (c0 : Nat) (l0 : List (S67)) (a1 : Int) (a2 : Int) (r1 : Bool) (r2 : Int) (w : World) (hr0 : Kd.C k67 w A0 l0.length l0) (hc0 : l0.length ≤ c0) (h : larchref05_Ahead.f k l0 a1 a2 = some (r1, r2)) :
  Calls Try.prog 20 #[.slice A0 l0.length c0, .int .i64 a1, .int .i64 a2] w fun e w' => e = .returned (.tuple #[.bool r1, .int .i64 r2]) ∧ Below w.heap.size w w' := by
 have HR0 := asd hr0
 have HC0 := asd hc0
 clear hr0 hc0
 have HB := asd (Below.refl w.heap.size w)
 have H : ((larchref05_Calls.f k l0).bind fun bt197 => (if bt197.2 = 0 then (if a1 < 0 then (some (false, 1)) else (if a1 ≥ (bt197.1.length : Int) then (some (false, 1)) else (if a2 < 0 then (some (false, 1)) else (if a2 ≥ (bt197.1.length : Int) then (some (false, 1)) else ((larchref05_before.f bt197.1 a1 a2).bind fun t201 => (some (t201, 0))))))) else (some (false, bt197.2)))) = some (r1, r2) := h
 clear h
 replace H := Option.bind_eq_some_iff.mp H
 obtain ⟨⟨t197, t198⟩, A40, H⟩ := H
 replace H : (if t198 = 0 then (if a1 < 0 then (some (false, 1)) else (if a1 ≥ (t197.length : Int) then (some (false, 1)) else (if a2 < 0 then (some (false, 1)) else (if a2 ≥ (t197.length : Int) then (some (false, 1)) else ((larchref05_before.f t197 a1 a2).bind fun t201 => (some (t201, 0))))))) else (some (false, t198))) = some (r1, r2) := H
 have A4 := asd A40
 clear A40
 by_cases c5 : t198 = 0
 ·
  rw [if_pos c5] at H
  have c5b0 : (t198 == 0) = true := beq_iff_eq.mpr c5
  have c5b1 : (t198 != 0) = false := bne_eq_false_iff_eq.mpr c5
  clear c5
  by_cases c6 : a1 < 0
  ·
   rw [if_pos c6] at H
   have c6b0 : decide (a1 < 0) = true := decide_eq_true c6
   clear c6
   simp only [Option.some.injEq, Prod.mk.injEq] at H
   obtain ⟨rfl, rfl⟩ := H
   go_enter Try.func20, Try.ntmps20
   go_wp2_with (first | ((with_reducible refine gate_callee (f := 38) rfl ?_); refine goesL_ (some 12) rfl rfl Try.func38 (by kernel_rfl) rfl #[.slice A0 l0.length c0] rfl ags ?_; (with_reducible refine (larchref05_Calls.calls k _ _ l0 t197 t198 _ ?side1 ?side2 A4.out).mono ?_); (case side1 => exact skC HR0.out); (case side2 => exact HC0.out); rintro e w7 ⟨v199, rfl, ho0, hb⟩; refine ⟨_, rfl, ?_⟩; have n0_ := asd (Kd.S_lower ho0 (below_size (skB HB.out))); have n1_ := asd (below_step (skB HB.out) hb); clear HB; have HO200 := n0_; have HB := n1_; clear n0_ n1_; (try clear hb); (try clear hb2); (try clear hk); (try clear hi); (try clear ho0)))
   go_ret2
   exact ⟨re, skB HB.out⟩
  ·
   rw [if_neg c6] at H
   have c6b0 : decide (a1 < 0) = false := decide_eq_false c6
   clear c6
   by_cases c8 : a1 ≥ (t197.length : Int)
   ·
    rw [if_pos c8] at H
    have c8b0 : decide ((t197.length : Int) ≤ a1) = true := decide_eq_true c8
    clear c8
    simp only [Option.some.injEq, Prod.mk.injEq] at H
    obtain ⟨rfl, rfl⟩ := H
    go_enter Try.func20, Try.ntmps20
    go_wp2_with (first | ((with_reducible refine gate_callee (f := 38) rfl ?_); refine goesL_ (some 12) rfl rfl Try.func38 (by kernel_rfl) rfl #[.slice A0 l0.length c0] rfl ags ?_; (with_reducible refine (larchref05_Calls.calls k _ _ l0 t197 t198 _ ?side1 ?side2 A4.out).mono ?_); (case side1 => exact skC HR0.out); (case side2 => exact HC0.out); rintro e w9 ⟨v199, rfl, ho0, hb⟩; refine ⟨_, rfl, ?_⟩; have n0_ := asd (Kd.S_lower ho0 (below_size (skB HB.out))); have n1_ := asd (below_step (skB HB.out) hb); clear HB; have HO200 := n0_; have HB := n1_; clear n0_ n1_; (try clear hb); (try clear hb2); (try clear hk); (try clear hi); (try clear ho0); obtain ⟨Ao10, co10, eo10⟩ := Kd.S_slice HO200.out; subst eo10))
    go_ret2
    exact ⟨re, skB HB.out⟩
   ·
    rw [if_neg c8] at H
    have c8b0 : decide ((t197.length : Int) ≤ a1) = false := decide_eq_false c8
    clear c8
    by_cases c11 : a2 < 0
    ·
     rw [if_pos c11] at H
     have c11b0 : decide (a2 < 0) = true := decide_eq_true c11
     clear c11
     simp only [Option.some.injEq, Prod.mk.injEq] at H
     obtain ⟨rfl, rfl⟩ := H
     go_enter Try.func20, Try.ntmps20
     go_wp2_with (first | ((with_reducible refine gate_callee (f := 38) rfl ?_); refine goesL_ (some 12) rfl rfl Try.func38 (by kernel_rfl) rfl #[.slice A0 l0.length c0] rfl ags ?_; (with_reducible refine (larchref05_Calls.calls k _ _ l0 t197 t198 _ ?side1 ?side2 A4.out).mono ?_); (case side1 => exact skC HR0.out); (case side2 => exact HC0.out); rintro e w12 ⟨v199, rfl, ho0, hb⟩; refine ⟨_, rfl, ?_⟩; have n0_ := asd (Kd.S_lower ho0 (below_size (skB HB.out))); have n1_ := asd (below_step (skB HB.out) hb); clear HB; have HO200 := n0_; have HB := n1_; clear n0_ n1_; (try clear hb); (try clear hb2); (try clear hk); (try clear hi); (try clear ho0); obtain ⟨Ao13, co13, eo13⟩ := Kd.S_slice HO200.out; subst eo13))
     go_ret2
     exact ⟨re, skB HB.out⟩
    ·
     rw [if_neg c11] at H
     have c11b0 : decide (a2 < 0) = false := decide_eq_false c11
     clear c11
     by_cases c14 : a2 ≥ (t197.length : Int)
     ·
      rw [if_pos c14] at H
      have c14b0 : decide ((t197.length : Int) ≤ a2) = true := decide_eq_true c14
      clear c14
      simp only [Option.some.injEq, Prod.mk.injEq] at H
      obtain ⟨rfl, rfl⟩ := H
      go_enter Try.func20, Try.ntmps20
      go_wp2_with (first | ((with_reducible refine gate_callee (f := 38) rfl ?_); refine goesL_ (some 12) rfl rfl Try.func38 (by kernel_rfl) rfl #[.slice A0 l0.length c0] rfl ags ?_; (with_reducible refine (larchref05_Calls.calls k _ _ l0 t197 t198 _ ?side1 ?side2 A4.out).mono ?_); (case side1 => exact skC HR0.out); (case side2 => exact HC0.out); rintro e w15 ⟨v199, rfl, ho0, hb⟩; refine ⟨_, rfl, ?_⟩; have n0_ := asd (Kd.S_lower ho0 (below_size (skB HB.out))); have n1_ := asd (below_step (skB HB.out) hb); clear HB; have HO200 := n0_; have HB := n1_; clear n0_ n1_; (try clear hb); (try clear hb2); (try clear hk); (try clear hi); (try clear ho0); obtain ⟨Ao16, co16, eo16⟩ := Kd.S_slice HO200.out; subst eo16))
      go_ret2
      exact ⟨re, skB HB.out⟩
     ·
      rw [if_neg c14] at H
      have c14b0 : decide ((t197.length : Int) ≤ a2) = false := decide_eq_false c14
      clear c14
      replace H := Option.bind_eq_some_iff.mp H
      obtain ⟨t201, A170, H⟩ := H
      replace H : (some (t201, 0)) = some (r1, r2) := H
      have A17 := asd A170
      clear A170
      simp only [Option.some.injEq, Prod.mk.injEq] at H
      obtain ⟨rfl, rfl⟩ := H
      go_enter Try.func20, Try.ntmps20
      go_wp2_with (first | ((with_reducible refine gate_callee (f := 38) rfl ?_); refine goesL_ (some 12) rfl rfl Try.func38 (by kernel_rfl) rfl #[.slice A0 l0.length c0] rfl ags ?_; (with_reducible refine (larchref05_Calls.calls k _ _ l0 t197 t198 _ ?side1 ?side2 A4.out).mono ?_); (case side1 => exact skC HR0.out); (case side2 => exact HC0.out); rintro e w18 ⟨v199, rfl, ho0, hb⟩; refine ⟨_, rfl, ?_⟩; have n0_ := asd (Kd.S_lower ho0 (below_size (skB HB.out))); have n1_ := asd (below_step (skB HB.out) hb); clear HB; have HO200 := n0_; have HB := n1_; clear n0_ n1_; (try clear hb); (try clear hb2); (try clear hk); (try clear hi); (try clear ho0); obtain ⟨Ao19, co19, eo19⟩ := Kd.S_slice HO200.out; subst eo19) | ((with_reducible refine gate_callee (f := 49) rfl ?_); refine goesL_ (some 39) rfl rfl Try.func49 (by kernel_rfl) rfl #[.slice Ao19 t197.length co19, .int .i64 a1, .int .i64 a2] rfl ags ?_; (with_reducible refine (larchref05_before.calls _ _ t197 a1 a2 t201 _ ?side1 ?side2 A17.out).mono ?_); (case side1 => exact skC (Kd.S_reads' HO200.out).2.2); (case side2 => exact (Kd.S_reads' HO200.out).2.1); rintro e w' ⟨rfl, ⟨nd, rfl⟩⟩; refine ⟨_, rfl, ?_⟩))
      go_ret2
      exact ⟨re, skB HB.out⟩
 ·
  rw [if_neg c5] at H
  have c5b0 : (t198 == 0) = false := beq_eq_false_iff_ne.mpr c5
  have c5b1 : (t198 != 0) = true := bne_iff_ne.mpr c5
  simp only [Option.some.injEq, Prod.mk.injEq] at H
  obtain ⟨rfl, rfl⟩ := H
  go_enter Try.func20, Try.ntmps20
  go_wp2_with (first | ((with_reducible refine gate_callee (f := 38) rfl ?_); refine goesL_ (some 12) rfl rfl Try.func38 (by kernel_rfl) rfl #[.slice A0 l0.length c0] rfl ags ?_; (with_reducible refine (larchref05_Calls.calls k _ _ l0 t197 t198 _ ?side1 ?side2 A4.out).mono ?_); (case side1 => exact skC HR0.out); (case side2 => exact HC0.out); rintro e w20 ⟨v199, rfl, ho0, hb⟩; refine ⟨_, rfl, ?_⟩; have n0_ := asd (Kd.S_lower ho0 (below_size (skB HB.out))); have n1_ := asd (below_step (skB HB.out) hb); clear HB; have HO200 := n0_; have HB := n1_; clear n0_ n1_; (try clear hb); (try clear hb2); (try clear hk); (try clear hi); (try clear ho0)))
  go_ret2
  exact ⟨re, skB HB.out⟩
end Go.Proofs.Ytagdkmcgepidoaa.P
/- F26 -/
namespace Go.Proofs.Ytagdkmcgepidoaa.P
open Go.RowKit Go.Proofs.YtagdkmcgepidoaaW.PrintWords Go.Proofs.YtagdkmcgepidoaaW.PrintLast Go.Proofs.YtagdkmcgepidoaaW.PrintMore
attribute [local go_sem] max2_int min2_int max_two min_two max_three min_three max_four min_four   -- for this text's walks alone
set_option linter.unusedVariables false
set_option linter.unusedSimpArgs false
def larchref05_Pending.l0 : Nat → List (S76) → List Int → Int → Option (List Int × Int)
 | 0, _, _, _ => none
 | k + 1, x4, x6, x7 => if x7 < (x4.length : Int) then (if 0 ≤ x7 then (if ((J76 x4 x7).f4) = (-1) then (if x6.length < 17592186044416 then (larchref05_Pending.l0 k x4 (x6 ++ [x7]) (wrap64 (x7 + 1))) else (none)) else (larchref05_Pending.l0 k x4 x6 (wrap64 (x7 + 1)))) else (none)) else (some (x6, 0))
def larchref05_Pending.f (k : Nat) (l0 : List (S67)) : Option (List Int × Int) := (larchref05_Calls.f k l0).bind fun bt202 => (if bt202.2 = 0 then (larchref05_Pending.l0 k bt202.1 ([] : List Int) 0) else (some (([] : List Int), bt202.2)))
set_option maxHeartbeats 8000000 in
set_option maxRecDepth 100000 in
theorem larchref05_Pending.calls (k : Nat) (A0 : Option Addr) (c0 : Nat) (l0 : List (S67)) (r1 : List Int) (r2 : Int) (w : World) (hr0 : Kd.C k67 w A0 l0.length l0) (hc0 : l0.length ≤ c0) (h : larchref05_Pending.f k l0 = some (r1, r2)) :
  Calls Try.prog 21 #[.slice A0 l0.length c0] w fun e w' => ∃ v0_ : Value, e = .returned (.tuple #[v0_, .int .i64 r2]) ∧ Kd.R (Kd.int .i64) 3 w' w.heap.size (fun _ => True) v0_ r1 ∧ Below w.heap.size w w' := by
 have HR0 := asd hr0
 have HC0 := asd hc0
 clear hr0 hc0
 have HB := asd (Below.refl w.heap.size w)
 have H : ((larchref05_Calls.f k l0).bind fun bt202 => (if bt202.2 = 0 then (larchref05_Pending.l0 k bt202.1 ([] : List Int) 0) else (some (([] : List Int), bt202.2)))) = some (r1, r2) := h
 clear h
 replace H := Option.bind_eq_some_iff.mp H
 obtain ⟨⟨t202, t203⟩, A20, H⟩ := H
 replace H : (if t203 = 0 then (larchref05_Pending.l0 k t202 ([] : List Int) 0) else (some (([] : List Int), t203))) = some (r1, r2) := H
 have A2 := asd A20
 clear A20
 by_cases c3 : t203 = 0
 ·
  rw [if_pos c3] at H
  have c3b0 : (t203 == 0) = true := beq_iff_eq.mpr c3
  have c3b1 : (t203 != 0) = false := bne_eq_false_iff_eq.mpr c3
  clear c3
  have H' := asd H
  clear H
  go_enter Try.func21, Try.ntmps21
  go_wp2_with (first | ((with_reducible refine gate_callee (f := 38) rfl ?_); refine goesL_ (some 10) rfl rfl Try.func38 (by kernel_rfl) rfl #[.slice A0 l0.length c0] rfl ags ?_; (with_reducible refine (larchref05_Calls.calls k _ _ l0 t202 t203 _ ?side1 ?side2 A2.out).mono ?_); (case side1 => exact skC HR0.out); (case side2 => exact HC0.out); rintro e w4 ⟨v204, rfl, ho0, hb⟩; refine ⟨_, rfl, ?_⟩; have n0_ := asd (Kd.S_lower ho0 (below_size (skB HB.out))); have n1_ := asd (below_step (skB HB.out) hb); clear HB; have HO205 := n0_; have HB := n1_; clear n0_ n1_; (try clear hb); (try clear hb2); (try clear hk); (try clear hi); (try clear ho0)))
  go_loopg [6, 7] k (fun kq v6 v7 w' => ∃ (x6_1 : List Int) (x7_1 : Int), v7 = .int .i64 x7_1 ∧ Aside0 (larchref05_Pending.l0 kq t202 x6_1 x7_1 = some (r1, r2)) ∧ Aside0 (kq ≤ k) ∧ Aside0 (Kd.S k76 76 w' w.heap.size (fun _ => True) v204 t202) ∧ Aside0 (Kd.R (Kd.int .i64) 3 w' w.heap.size (fun _ => True) v6 x6_1) ∧ Aside0 (Below w.heap.size w w'))
  case atStart => exact ⟨(([] : List Int)), (0), rs, H', ⟨Nat.le_refl _⟩, ⟨by (with_reducible repeat (first | apply Kd.S_alloc | apply Kd.S_drewN | apply Kd.S_drew)); exact HO205.out⟩, ⟨by first | exact Kd.R_nil _ _ _ _ _ | exact Kd.N_nil _ _ _ _ _ | exact Kd.V_nil _ _ _ _ _ | exact Kd.Q_nil _ _ _ _ _ | exact Kd.S_nil _ _ _ _ _⟩, ⟨skB HB.out⟩⟩
  case round =>
   clear H'
   try clear c2
   try clear p2
   try clear c3
   try clear c3b0
   try clear c3b1
   obtain ⟨x6_1, x7_1, rfl, HA, HK1, HO_4, HO_6, HB⟩ := hrel
   cases gk with
   | zero => exact absurd HA.out (by simp [larchref05_Pending.l0])
   | succ k1 =>
    have H := HA.out
    clear HA
    simp only [larchref05_Pending.l0] at H
    by_cases c5 : x7_1 < (t202.length : Int)
    ·
     rw [if_pos c5] at H
     have c5b0 : decide (x7_1 < (t202.length : Int)) = true := decide_eq_true c5
     clear c5
     by_cases c6 : 0 ≤ x7_1
     ·
      rw [if_pos c6] at H
      have c6b0 : decide (0 ≤ x7_1) = true := decide_eq_true c6
      clear c6
      by_cases c7 : ((J76 t202 x7_1).f4) = (-1)
      ·
       rw [if_pos c7] at H
       have c7b0 : (((J76 t202 x7_1).f4) == (-1)) = true := beq_iff_eq.mpr c7
       have c7b1 : (((J76 t202 x7_1).f4) != (-1)) = false := bne_eq_false_iff_eq.mpr c7
       clear c7
       by_cases c8 : x6_1.length < 17592186044416
       ·
        rw [if_pos c8] at H
        have LMc8 := asd c8
        clear c8
        obtain ⟨y207, hy207⟩ : ∃ y_ : List Int, y_ = (x6_1 ++ [x7_1]) := ⟨_, rfl⟩
        replace H : (larchref05_Pending.l0 k1 t202 y207 (wrap64 (x7_1 + 1))) = some (r1, r2) := by first | (rw [hy207]; with_reducible exact H) | (have H2_ := (Option.bind_some _ _).symm.trans H; rw [hy207]; with_reducible exact H2_) | (have H2_ := (Option.bind_some _ _).symm.trans H; with_reducible exact H2_) | with_reducible exact H | (rw [hy207]; exact H) | exact H
        have Ny207 := asd hy207
        clear hy207
        have H' := asd H
        clear H
        obtain ⟨Ao9, co9, eo9⟩ := Kd.S_slice HO_4.out
        subst eo9
        have p206 : 0 ≤ (x7_1 : Int) := dt
        have q206 : x7_1 < (t202.length : Int) := dt
        obtain ⟨ad206, A206_8, c206_8, e206, hx206_0, hx206_1, hx206_2, hx206_3, hx206_4, hx206_5, hx206_6, hx206_7, hx206_8, hx206_9, hx206_10, hl206_8, hi206_8⟩ := at_T76 (Kd.S_reads' HO_4.out).2.2 x7_1 p206 q206
        cases e206
        obtain ⟨ce206, hce206, hMe206, hcc206⟩ := Kd.S_get HO_4.out z76 x7_1 p206 (by first | exact q206 | exact dt | (have e_ := (Kd.S_reads' HO_4.out).1; omega))
        obtain ⟨ve206_8, rfl, ge206_8⟩ := k76_openM hMe206
        have hv206_8 := hcc206 8 _ rfl
        rw [add_field _ _ 8 (by omega)] at hv206_8
        replace hv206_8 := Option.some.inj (hv206_8.symm.trans hx206_8)
        rw [hv206_8] at ge206_8
        have HL206_8 := asd (show Kd.R k70 70 _ _ _ _ ((J76 t202 x7_1).f2.f3) from ge206_8)
        clear hv206_8 ge206_8
        clear hcc206 hce206
        have HR206_8 := asd hi206_8
        have HC206_8 := asd hl206_8
        clear hi206_8 hl206_8
        replace p206 := eq_true p206
        replace q206 := eq_true q206
        go_wp2_with (first | ((with_reducible refine gate_builtin (b := .append) (xs := #[.tmp 28, .tmp 30]) rfl ?_); at_builtin; refine Kd.R_append (Kd.int .i64) (w0 := w) w.heap.size rfl (.tmp 28) (.tmp 30) 41 3 (.int .i64 0) 8 rfl Try.underlying41 info3 rfl (by decide) (by omega) u6 x6_1 x7_1 [.int .i64 x7_1] (fun _ => True) (fun _ => False) rfl rfl ?aP (fun _ hk => hk.elim) ?aF ?aO ?aB ?aS ?aL ?_; (case aP => exact rfl); (case aB => exact (skB HB.out)); (case aF => exact (fun _ _ => trivial)); (case aO => exact (skR HO_6.out)); (case aS => exact (below_size (skB HB.out))); (case aL => have := LMc8.out; omega); intro v208 w10 ho hb hg hat; rw [← Ny207.out] at ho; have n0_ := asd (Kd.S_over' (by (with_reducible repeat (first | apply Kd.S_alloc | apply Kd.S_drewN | apply Kd.S_drew)); exact HO_4.out) (Kd.R_typed (skR HO_6.out)) (by decide) hg); have n1_ := asd (Kd.R_over' (skR HL206_8.out) (Kd.R_typed (skR HO_6.out)) (by decide) hg); have n2_ := asd (hb); have n3_ := asd (ho); clear HO_4; clear HL206_8; clear HB; clear HO_6; have HO_4 := n0_; have HL206_8 := n1_; have HB := n2_; have HO209 := n3_; clear n0_ n1_ n2_ n3_; clear ho hb hg hat))
        go_roundg k1
        case measure => have := HK1.out; omega
        case rel => exact ⟨(y207), (wrap64 (x7_1 + 1)), rs, H', ⟨by have := HK1.out; omega⟩, ⟨by (with_reducible repeat (first | apply Kd.S_alloc | apply Kd.S_drewN | apply Kd.S_drew)); exact HO_4.out⟩, ⟨skR HO209.out⟩, ⟨skB HB.out⟩⟩
       ·
        rw [if_neg c8] at H
        exact absurd H (by simp)
      ·
       rw [if_neg c7] at H
       have c7b0 : (((J76 t202 x7_1).f4) == (-1)) = false := beq_eq_false_iff_ne.mpr c7
       have c7b1 : (((J76 t202 x7_1).f4) != (-1)) = true := bne_iff_ne.mpr c7
       have H' := asd H
       clear H
       obtain ⟨Ao11, co11, eo11⟩ := Kd.S_slice HO_4.out
       subst eo11
       have p206 : 0 ≤ (x7_1 : Int) := dt
       have q206 : x7_1 < (t202.length : Int) := dt
       obtain ⟨ad206, A206_8, c206_8, e206, hx206_0, hx206_1, hx206_2, hx206_3, hx206_4, hx206_5, hx206_6, hx206_7, hx206_8, hx206_9, hx206_10, hl206_8, hi206_8⟩ := at_T76 (Kd.S_reads' HO_4.out).2.2 x7_1 p206 q206
       cases e206
       obtain ⟨ce206, hce206, hMe206, hcc206⟩ := Kd.S_get HO_4.out z76 x7_1 p206 (by first | exact q206 | exact dt | (have e_ := (Kd.S_reads' HO_4.out).1; omega))
       obtain ⟨ve206_8, rfl, ge206_8⟩ := k76_openM hMe206
       have hv206_8 := hcc206 8 _ rfl
       rw [add_field _ _ 8 (by omega)] at hv206_8
       replace hv206_8 := Option.some.inj (hv206_8.symm.trans hx206_8)
       rw [hv206_8] at ge206_8
       have HL206_8 := asd (show Kd.R k70 70 _ _ _ _ ((J76 t202 x7_1).f2.f3) from ge206_8)
       clear hv206_8 ge206_8
       clear hcc206 hce206
       have HR206_8 := asd hi206_8
       have HC206_8 := asd hl206_8
       clear hi206_8 hl206_8
       replace p206 := eq_true p206
       replace q206 := eq_true q206
       go_wp2
       go_roundg k1
       case measure => have := HK1.out; omega
       case rel => exact ⟨(x6_1), (wrap64 (x7_1 + 1)), rs, H', ⟨by have := HK1.out; omega⟩, ⟨by (with_reducible repeat (first | apply Kd.S_alloc | apply Kd.S_drewN | apply Kd.S_drew)); exact HO_4.out⟩, ⟨skR HO_6.out⟩, ⟨skB HB.out⟩⟩
     ·
      rw [if_neg c6] at H
      exact absurd H (by simp)
    ·
     rw [if_neg c5] at H
     have c5b0 : decide (x7_1 < (t202.length : Int)) = false := decide_eq_false c5
     clear c5
     simp only [Option.some.injEq, Prod.mk.injEq] at H
     obtain ⟨rfl, rfl⟩ := H
     obtain ⟨Ao12, co12, eo12⟩ := Kd.S_slice HO_4.out
     subst eo12
     go_wp2
     go_ret2
     exact ⟨_, re, skR HO_6.out, skB HB.out⟩
 ·
  rw [if_neg c3] at H
  have c3b0 : (t203 == 0) = false := beq_eq_false_iff_ne.mpr c3
  have c3b1 : (t203 != 0) = true := bne_iff_ne.mpr c3
  simp only [Option.some.injEq, Prod.mk.injEq] at H
  obtain ⟨rfl, rfl⟩ := H
  go_enter Try.func21, Try.ntmps21
  go_wp2_with (first | ((with_reducible refine gate_callee (f := 38) rfl ?_); refine goesL_ (some 10) rfl rfl Try.func38 (by kernel_rfl) rfl #[.slice A0 l0.length c0] rfl ags ?_; (with_reducible refine (larchref05_Calls.calls k _ _ l0 t202 t203 _ ?side1 ?side2 A2.out).mono ?_); (case side1 => exact skC HR0.out); (case side2 => exact HC0.out); rintro e w13 ⟨v204, rfl, ho0, hb⟩; refine ⟨_, rfl, ?_⟩; have n0_ := asd (Kd.S_lower ho0 (below_size (skB HB.out))); have n1_ := asd (below_step (skB HB.out) hb); clear HB; have HO205 := n0_; have HB := n1_; clear n0_ n1_; (try clear hb); (try clear hb2); (try clear hk); (try clear hi); (try clear ho0)))
  go_ret2
  exact ⟨_, re, by first | exact Kd.R_nil _ _ _ _ _ | exact Kd.N_nil _ _ _ _ _ | exact Kd.V_nil _ _ _ _ _ | exact Kd.Q_nil _ _ _ _ _ | exact Kd.S_nil _ _ _ _ _, skB HB.out⟩
end Go.Proofs.Ytagdkmcgepidoaa.P
/- F28 -/
namespace Go.Proofs.Ytagdkmcgepidoaa.P
open Go.RowKit Go.Proofs.YtagdkmcgepidoaaW.PrintWords Go.Proofs.YtagdkmcgepidoaaW.PrintLast Go.Proofs.YtagdkmcgepidoaaW.PrintMore
attribute [local go_sem] max2_int min2_int max_two min_two max_three min_three max_four min_four   -- for this text's walks alone
set_option linter.unusedVariables false
set_option linter.unusedSimpArgs false
def larchlaw05_ints.l0 : Nat → List Int → List Int → Int → Option (Bool)
 | 0, _, _, _ => none
 | k + 1, x0, x1, x5 => if x5 < (x0.length : Int) then (if 0 ≤ x5 then (if x5 < (x1.length : Int) then (if (rd x0 x5) = (rd x1 x5) then (larchlaw05_ints.l0 k x0 x1 (wrap64 (x5 + 1))) else (some false)) else (none)) else (none)) else (some true)
def larchlaw05_ints.f (k : Nat) (l0 : List Int) (l1 : List Int) : Option (Bool) := if (l0.length : Int) = (l1.length : Int) then (larchlaw05_ints.l0 k l0 l1 0) else (some false)
set_option maxHeartbeats 8000000 in
set_option maxRecDepth 100000 in
theorem larchlaw05_ints.calls (k : Nat) (A0 : Option Addr) (c0 : Nat) (l0 : List Int) (A1 : Option Addr) (c1 : Nat) (l1 : List Int) (r : Bool) (w : World) (hr0 : Kd.C (Kd.int .i64) w A0 l0.length l0) (hc0 : l0.length ≤ c0) (hr1 : Kd.C (Kd.int .i64) w A1 l1.length l1) (hc1 : l1.length ≤ c1) (h : larchlaw05_ints.f k l0 l1 = some r) :
  Calls Try.prog 23 #[.slice A0 l0.length c0, .slice A1 l1.length c1] w fun e w' => e = .returned (.bool r) ∧ Drawn0 w w' := by
 have HR0 := asd hr0
 have HC0 := asd hc0
 clear hr0 hc0
 have HR1 := asd hr1
 have HC1 := asd hc1
 clear hr1 hc1
 have H : (if (l0.length : Int) = (l1.length : Int) then (larchlaw05_ints.l0 k l0 l1 0) else (some false)) = some r := h
 clear h
 by_cases c3 : (l0.length : Int) = (l1.length : Int)
 ·
  rw [if_pos c3] at H
  have c3b0 : ((l0.length : Int) == (l1.length : Int)) = true := beq_iff_eq.mpr c3
  have c3b1 : ((l0.length : Int) != (l1.length : Int)) = false := bne_eq_false_iff_eq.mpr c3
  have c3b2 : (l0.length == l1.length) = true := by first | simpa using c3 | (simp at c3 ⊢; omega)
  clear c3
  have H' := asd H
  clear H
  go_enter Try.func23, Try.ntmps23
  go_wp2
  repeat (go_quiet (fail); try go_wp2)
  go_loopg [5] k (fun kq v5 w' => ∃ (x5_1 : Int), v5 = .int .i64 x5_1 ∧ Aside0 (larchlaw05_ints.l0 kq l0 l1 x5_1 = some r) ∧ Aside0 (kq ≤ k) ∧ Drawn0 w w')
  case atStart => exact ⟨(0), rs, H', ⟨Nat.le_refl _⟩, by repeat (first | exact Drawn0.refl _ | apply Drawn0.step)⟩
  case round =>
   clear H'
   try clear c1
   try clear c2
   try clear p2
   try clear c3
   try clear c3b0
   try clear c3b1
   try clear c3b2
   obtain ⟨x5_1, rfl, HA, HK1, ⟨m1, rfl⟩⟩ := hrel
   cases gk with
   | zero => exact absurd HA.out (by simp [larchlaw05_ints.l0])
   | succ k1 =>
    have H := HA.out
    clear HA
    simp only [larchlaw05_ints.l0] at H
    by_cases c4 : x5_1 < (l0.length : Int)
    ·
     rw [if_pos c4] at H
     have c4b0 : decide (x5_1 < (l0.length : Int)) = true := decide_eq_true c4
     clear c4
     by_cases c5 : 0 ≤ x5_1
     ·
      rw [if_pos c5] at H
      have c5b0 : decide (0 ≤ x5_1) = true := decide_eq_true c5
      clear c5
      by_cases c6 : x5_1 < (l1.length : Int)
      ·
       rw [if_pos c6] at H
       have c6b0 : decide (x5_1 < (l1.length : Int)) = true := decide_eq_true c6
       clear c6
       by_cases c7 : (rd l0 x5_1) = (rd l1 x5_1)
       ·
        rw [if_pos c7] at H
        have c7b0 : ((rd l0 x5_1) == (rd l1 x5_1)) = true := beq_iff_eq.mpr c7
        have c7b1 : ((rd l0 x5_1) != (rd l1 x5_1)) = false := bne_eq_false_iff_eq.mpr c7
        clear c7
        have H' := asd H
        clear H
        have p219 : 0 ≤ (x5_1 : Int) := dt
        have q219 : x5_1 < (l0.length : Int) := dt
        obtain ⟨ad219, e219, hx219_0⟩ := Kd.at_int HR0.out x5_1 p219 q219
        cases e219
        replace p219 := eq_true p219
        replace q219 := eq_true q219
        have p220 : 0 ≤ (x5_1 : Int) := dt
        have q220 : x5_1 < (l1.length : Int) := dt
        obtain ⟨ad220, e220, hx220_0⟩ := Kd.at_int HR1.out x5_1 p220 q220
        cases e220
        replace p220 := eq_true p220
        replace q220 := eq_true q220
        go_wp2
        repeat (go_quiet (fail); try go_wp2)
        go_roundg k1
        case measure => have := HK1.out; omega
        case rel => exact ⟨(wrap64 (x5_1 + 1)), rs, H', ⟨by have := HK1.out; omega⟩, by repeat (first | exact Drawn0.refl _ | apply Drawn0.step)⟩
       ·
        rw [if_neg c7] at H
        have c7b0 : ((rd l0 x5_1) == (rd l1 x5_1)) = false := beq_eq_false_iff_ne.mpr c7
        have c7b1 : ((rd l0 x5_1) != (rd l1 x5_1)) = true := bne_iff_ne.mpr c7
        obtain rfl := Option.some.inj H
        have p219 : 0 ≤ (x5_1 : Int) := dt
        have q219 : x5_1 < (l0.length : Int) := dt
        obtain ⟨ad219, e219, hx219_0⟩ := Kd.at_int HR0.out x5_1 p219 q219
        cases e219
        replace p219 := eq_true p219
        replace q219 := eq_true q219
        have p220 : 0 ≤ (x5_1 : Int) := dt
        have q220 : x5_1 < (l1.length : Int) := dt
        obtain ⟨ad220, e220, hx220_0⟩ := Kd.at_int HR1.out x5_1 p220 q220
        cases e220
        replace p220 := eq_true p220
        replace q220 := eq_true q220
        go_wp2
        repeat (go_quiet (fail); try go_wp2)
        go_ret
        exact ⟨by first | rfl | (simp; done) | (simp [*]; done), by repeat (first | exact Drawn0.refl _ | apply Drawn0.step)⟩
      ·
       rw [if_neg c6] at H
       exact absurd H (by simp)
     ·
      rw [if_neg c5] at H
      exact absurd H (by simp)
    ·
     rw [if_neg c4] at H
     have c4b0 : decide (x5_1 < (l0.length : Int)) = false := decide_eq_false c4
     clear c4
     obtain rfl := Option.some.inj H
     go_wp2
     repeat (go_quiet (fail); try go_wp2)
     go_ret
     exact ⟨by first | rfl | (simp; done) | (simp [*]; done), by repeat (first | exact Drawn0.refl _ | apply Drawn0.step)⟩
 ·
  rw [if_neg c3] at H
  have c3b0 : ((l0.length : Int) == (l1.length : Int)) = false := beq_eq_false_iff_ne.mpr c3
  have c3b1 : ((l0.length : Int) != (l1.length : Int)) = true := bne_iff_ne.mpr c3
  have c3b2 : (l0.length == l1.length) = false := by first | simpa using c3 | (simp at c3 ⊢; omega)
  obtain rfl := Option.some.inj H
  go_enter Try.func23, Try.ntmps23
  go_wp2
  repeat (go_quiet (fail); try go_wp2)
  go_ret
  exact ⟨by first | rfl | (simp; done) | (simp [*]; done), by repeat (first | exact Drawn0.refl _ | apply Drawn0.step)⟩
end Go.Proofs.Ytagdkmcgepidoaa.P
/- F29 -/
namespace Go.Proofs.Ytagdkmcgepidoaa.P
open Go.RowKit Go.Proofs.YtagdkmcgepidoaaW.PrintWords Go.Proofs.YtagdkmcgepidoaaW.PrintLast Go.Proofs.YtagdkmcgepidoaaW.PrintMore
attribute [local go_sem] max2_int min2_int max_two min_two max_three min_three max_four min_four   -- for this text's walks alone
set_option linter.unusedVariables false
set_option linter.unusedSimpArgs false
def larchref05_Width.l0 : Nat → List (S67) → Int → Int → Int → Option (Int × Int)
 | 0, _, _, _, _ => none
 | k + 1, x0, x5, x6, x7 => if x7 < (x0.length : Int) then (if 0 ≤ x7 then (if (J67 x0 x7).f1 = true then (larchref05_Width.l0 k x0 (wrap64 (x5 - 1)) (mx x6 (wrap64 (x5 - 1))) (wrap64 (x7 + 1))) else (larchref05_Width.l0 k x0 (wrap64 (x5 + 1)) (mx x6 (wrap64 (x5 + 1))) (wrap64 (x7 + 1)))) else (none)) else (some (x6, 0))
def larchref05_Width.f (k : Nat) (l0 : List (S67)) : Option (Int × Int) := (larchref05_Check.f k l0).bind fun t221 => (if t221 = 0 then (larchref05_Width.l0 k l0 0 0 0) else (some (0, t221)))
set_option maxHeartbeats 8000000 in
set_option maxRecDepth 100000 in
theorem larchref05_Width.calls (k : Nat) (A0 : Option Addr) (c0 : Nat) (l0 : List (S67)) (r1 : Int) (r2 : Int) (w : World) (hr0 : Kd.C k67 w A0 l0.length l0) (hc0 : l0.length ≤ c0) (h : larchref05_Width.f k l0 = some (r1, r2)) :
  Calls Try.prog 24 #[.slice A0 l0.length c0] w fun e w' => e = .returned (.tuple #[.int .i64 r1, .int .i64 r2]) ∧ Below w.heap.size w w' := by
 have HR0 := asd hr0
 have HC0 := asd hc0
 clear hr0 hc0
 have HB := asd (Below.refl w.heap.size w)
 have H : ((larchref05_Check.f k l0).bind fun t221 => (if t221 = 0 then (larchref05_Width.l0 k l0 0 0 0) else (some (0, t221)))) = some (r1, r2) := h
 clear h
 replace H := Option.bind_eq_some_iff.mp H
 obtain ⟨t221, A20, H⟩ := H
 replace H : (if t221 = 0 then (larchref05_Width.l0 k l0 0 0 0) else (some (0, t221))) = some (r1, r2) := H
 have A2 := asd A20
 clear A20
 by_cases c3 : t221 = 0
 ·
  rw [if_pos c3] at H
  have c3b0 : (t221 == 0) = true := beq_iff_eq.mpr c3
  have c3b1 : (t221 != 0) = false := bne_eq_false_iff_eq.mpr c3
  clear c3
  have H' := asd H
  clear H
  go_enter Try.func24, Try.ntmps24
  go_wp2_with (first | ((with_reducible refine gate_callee (f := 37) rfl ?_); refine goesL_ (some 9) rfl rfl Try.func37 (by kernel_rfl) rfl #[.slice A0 l0.length c0] rfl ags ?_; (with_reducible refine (larchref05_Check.calls k _ _ l0 t221 _ ?side1 ?side2 A2.out).mono ?_); (case side1 => exact skC HR0.out); (case side2 => exact HC0.out); rintro e w4 ⟨rfl, hb⟩; refine ⟨_, rfl, ?_⟩; have n0_ := asd (below_step (skB HB.out) hb); clear HB; have HB := n0_; clear n0_; (try clear hb); (try clear hb2); (try clear hk); (try clear hi)))
  go_loopg [5, 6, 7] k (fun kq v5 v6 v7 w' => ∃ (x5_1 : Int) (x6_1 : Int) (x7_1 : Int), v5 = .int .i64 x5_1 ∧ v6 = .int .i64 x6_1 ∧ v7 = .int .i64 x7_1 ∧ Aside0 (larchref05_Width.l0 kq l0 x5_1 x6_1 x7_1 = some (r1, r2)) ∧ Aside0 (kq ≤ k) ∧ Aside0 (Below w.heap.size w w'))
  case atStart => exact ⟨(0), (0), (0), rs, rs, rs, H', ⟨Nat.le_refl _⟩, ⟨skB HB.out⟩⟩
  case round =>
   clear H'
   try clear c2
   try clear p2
   try clear c3
   try clear c3b0
   try clear c3b1
   obtain ⟨x5_1, x6_1, x7_1, rfl, rfl, rfl, HA, HK1, HB⟩ := hrel
   cases gk with
   | zero => exact absurd HA.out (by simp [larchref05_Width.l0])
   | succ k1 =>
    have H := HA.out
    clear HA
    simp only [larchref05_Width.l0] at H
    by_cases c5 : x7_1 < (l0.length : Int)
    ·
     rw [if_pos c5] at H
     have c5b0 : decide (x7_1 < (l0.length : Int)) = true := decide_eq_true c5
     clear c5
     by_cases c6 : 0 ≤ x7_1
     ·
      rw [if_pos c6] at H
      have c6b0 : decide (0 ≤ x7_1) = true := decide_eq_true c6
      clear c6
      obtain ⟨bq7, hbq7⟩ : ∃ b_ : Bool, b_ = ((J67 l0 x7_1).f1) := ⟨_, rfl⟩
      replace H : (if bq7 = true then (larchref05_Width.l0 k1 l0 (wrap64 (x5_1 - 1)) (mx x6_1 (wrap64 (x5_1 - 1))) (wrap64 (x7_1 + 1))) else (larchref05_Width.l0 k1 l0 (wrap64 (x5_1 + 1)) (mx x6_1 (wrap64 (x5_1 + 1))) (wrap64 (x7_1 + 1)))) = some (r1, r2) := by rw [← hbq7] at H; exact H
      have Nbq7 := asd hbq7
      clear hbq7
      by_cases c8 : bq7 = true
      ·
       subst c8
       have H1 : (larchref05_Width.l0 k1 l0 (wrap64 (x5_1 - 1)) (mx x6_1 (wrap64 (x5_1 - 1))) (wrap64 (x7_1 + 1))) = some (r1, r2) := by rw [if_pos rfl] at H; exact H
       clear H
       have H := H1
       clear H1
       obtain ⟨ji9, hji9⟩ : ∃ j_ : Int, (mx x6_1 (wrap64 (x5_1 - 1))) = j_ := ⟨_, rfl⟩
       replace H : (larchref05_Width.l0 k1 l0 (wrap64 (x5_1 - 1)) ji9 (wrap64 (x7_1 + 1))) = some (r1, r2) := by first | (rw [hji9] at H; exact H) | (simp only [hji9] at H ⊢; exact H)
       have hji9_ : (if x6_1 < (wrap64 (x5_1 - 1)) then (wrap64 (x5_1 - 1)) else x6_1) = ji9 := hji9
       have H' := asd H
       clear H
       have p222 : 0 ≤ (x7_1 : Int) := dt
       have q222 : x7_1 < (l0.length : Int) := dt
       obtain ⟨ad222, A222_9, c222_9, e222, hx222_0, hx222_1, hx222_2, hx222_3, hx222_4, hx222_5, hx222_6, hx222_7, hx222_8, hx222_9, hl222_9, hi222_9⟩ := at_T67 HR0.out x7_1 p222 q222
       (try rw [← Nbq7.out] at hx222_1)
       (try rw [← Nbq7.out] at hx222_6)
       cases e222
       replace hx222_0 := skc HB.out hx222_0
       replace hx222_1 := skc HB.out hx222_1
       replace hx222_2 := skc HB.out hx222_2
       replace hx222_3 := skc HB.out hx222_3
       replace hx222_4 := skc HB.out hx222_4
       replace hx222_5 := skc HB.out hx222_5
       replace hx222_6 := skc HB.out hx222_6
       replace hx222_7 := skc HB.out hx222_7
       replace hx222_8 := skc HB.out hx222_8
       replace hx222_9 := skc HB.out hx222_9
       have HR222_9 := asd hi222_9
       have HC222_9 := asd hl222_9
       clear hi222_9 hl222_9
       replace p222 := eq_true p222
       replace q222 := eq_true q222
       go_wp2
       go_roundg k1
       case measure => have := HK1.out; omega
       case rel => exact ⟨(wrap64 (x5_1 - 1)), (ji9), (wrap64 (x7_1 + 1)), rs, (by first | rfl | (simp; done) | (simp only [← hji9] <;> (first | rfl | simp)) | (simp [*]; done)), rs, H', ⟨by have := HK1.out; omega⟩, ⟨skB HB.out⟩⟩
      ·
       replace c8 := Bool.eq_false_iff.mpr c8
       subst c8
       have H1 : (larchref05_Width.l0 k1 l0 (wrap64 (x5_1 + 1)) (mx x6_1 (wrap64 (x5_1 + 1))) (wrap64 (x7_1 + 1))) = some (r1, r2) := by rw [if_neg (show ¬ (false = true) by decide)] at H; exact H
       clear H
       have H := H1
       clear H1
       obtain ⟨ji10, hji10⟩ : ∃ j_ : Int, (mx x6_1 (wrap64 (x5_1 + 1))) = j_ := ⟨_, rfl⟩
       replace H : (larchref05_Width.l0 k1 l0 (wrap64 (x5_1 + 1)) ji10 (wrap64 (x7_1 + 1))) = some (r1, r2) := by first | (rw [hji10] at H; exact H) | (simp only [hji10] at H ⊢; exact H)
       have hji10_ : (if x6_1 < (wrap64 (x5_1 + 1)) then (wrap64 (x5_1 + 1)) else x6_1) = ji10 := hji10
       have H' := asd H
       clear H
       have p222 : 0 ≤ (x7_1 : Int) := dt
       have q222 : x7_1 < (l0.length : Int) := dt
       obtain ⟨ad222, A222_9, c222_9, e222, hx222_0, hx222_1, hx222_2, hx222_3, hx222_4, hx222_5, hx222_6, hx222_7, hx222_8, hx222_9, hl222_9, hi222_9⟩ := at_T67 HR0.out x7_1 p222 q222
       (try rw [← Nbq7.out] at hx222_1)
       (try rw [← Nbq7.out] at hx222_6)
       cases e222
       replace hx222_0 := skc HB.out hx222_0
       replace hx222_1 := skc HB.out hx222_1
       replace hx222_2 := skc HB.out hx222_2
       replace hx222_3 := skc HB.out hx222_3
       replace hx222_4 := skc HB.out hx222_4
       replace hx222_5 := skc HB.out hx222_5
       replace hx222_6 := skc HB.out hx222_6
       replace hx222_7 := skc HB.out hx222_7
       replace hx222_8 := skc HB.out hx222_8
       replace hx222_9 := skc HB.out hx222_9
       have HR222_9 := asd hi222_9
       have HC222_9 := asd hl222_9
       clear hi222_9 hl222_9
       replace p222 := eq_true p222
       replace q222 := eq_true q222
       go_wp2
       go_roundg k1
       case measure => have := HK1.out; omega
       case rel => exact ⟨(wrap64 (x5_1 + 1)), (ji10), (wrap64 (x7_1 + 1)), rs, (by first | rfl | (simp; done) | (simp only [← hji10] <;> (first | rfl | simp)) | (simp [*]; done)), rs, H', ⟨by have := HK1.out; omega⟩, ⟨skB HB.out⟩⟩
     ·
      rw [if_neg c6] at H
      exact absurd H (by simp)
    ·
     rw [if_neg c5] at H
     have c5b0 : decide (x7_1 < (l0.length : Int)) = false := decide_eq_false c5
     clear c5
     simp only [Option.some.injEq, Prod.mk.injEq] at H
     obtain ⟨rfl, rfl⟩ := H
     go_wp2
     go_ret2
     exact ⟨re, skB HB.out⟩
 ·
  rw [if_neg c3] at H
  have c3b0 : (t221 == 0) = false := beq_eq_false_iff_ne.mpr c3
  have c3b1 : (t221 != 0) = true := bne_iff_ne.mpr c3
  simp only [Option.some.injEq, Prod.mk.injEq] at H
  obtain ⟨rfl, rfl⟩ := H
  go_enter Try.func24, Try.ntmps24
  go_wp2_with (first | ((with_reducible refine gate_callee (f := 37) rfl ?_); refine goesL_ (some 9) rfl rfl Try.func37 (by kernel_rfl) rfl #[.slice A0 l0.length c0] rfl ags ?_; (with_reducible refine (larchref05_Check.calls k _ _ l0 t221 _ ?side1 ?side2 A2.out).mono ?_); (case side1 => exact skC HR0.out); (case side2 => exact HC0.out); rintro e w11 ⟨rfl, hb⟩; refine ⟨_, rfl, ?_⟩; have n0_ := asd (below_step (skB HB.out) hb); clear HB; have HB := n0_; clear n0_; (try clear hb); (try clear hb2); (try clear hk); (try clear hi)))
  go_ret2
  exact ⟨re, skB HB.out⟩
end Go.Proofs.Ytagdkmcgepidoaa.P
/- F30 -/
namespace Go.Proofs.Ytagdkmcgepidoaa.P
open Go.RowKit Go.Proofs.YtagdkmcgepidoaaW.PrintWords Go.Proofs.YtagdkmcgepidoaaW.PrintLast Go.Proofs.YtagdkmcgepidoaaW.PrintMore
attribute [local go_sem] max2_int min2_int max_two min_two max_three min_three max_four min_four   -- for this text's walks alone
set_option linter.unusedVariables false
set_option linter.unusedSimpArgs false
def larchref05_Row.f (k : Nat) (l0 : List (S67)) : Option (Bool × Int) := (larchref05_Width.f k l0).bind fun bt223 => (if bt223.2 = 0 then (some (decide (bt223.1 ≤ 1), bt223.2)) else (some (false, bt223.2)))
set_option maxHeartbeats 8000000 in
set_option maxRecDepth 100000 in
theorem larchref05_Row.calls (k : Nat) (A0 : Option Addr) (c0 : Nat) (l0 : List (S67)) (r1 : Bool) (r2 : Int) (w : World) (hr0 : Kd.C k67 w A0 l0.length l0) (hc0 : l0.length ≤ c0) (h : larchref05_Row.f k l0 = some (r1, r2)) :
  Calls Try.prog 26 #[.slice A0 l0.length c0] w fun e w' => e = .returned (.tuple #[.bool r1, .int .i64 r2]) ∧ Below w.heap.size w w' := by
 have HR0 := asd hr0
 have HC0 := asd hc0
 clear hr0 hc0
 have HB := asd (Below.refl w.heap.size w)
 have H : ((larchref05_Width.f k l0).bind fun bt223 => (if bt223.2 = 0 then (some (decide (bt223.1 ≤ 1), bt223.2)) else (some (false, bt223.2)))) = some (r1, r2) := h
 clear h
 replace H := Option.bind_eq_some_iff.mp H
 obtain ⟨⟨t223, t224⟩, A20, H⟩ := H
 replace H : (if t224 = 0 then (some (decide (t223 ≤ 1), t224)) else (some (false, t224))) = some (r1, r2) := H
 have A2 := asd A20
 clear A20
 by_cases c3 : t224 = 0
 ·
  rw [if_pos c3] at H
  have c3b0 : (t224 == 0) = true := beq_iff_eq.mpr c3
  have c3b1 : (t224 != 0) = false := bne_eq_false_iff_eq.mpr c3
  clear c3
  simp only [Option.some.injEq, Prod.mk.injEq] at H
  obtain ⟨rfl, rfl⟩ := H
  go_enter Try.func26, Try.ntmps26
  go_wp2_with (first | ((with_reducible refine gate_callee (f := 24) rfl ?_); refine goesL_ (some 8) rfl rfl Try.func24 (by kernel_rfl) rfl #[.slice A0 l0.length c0] rfl ags ?_; (with_reducible refine (larchref05_Width.calls k _ _ l0 t223 t224 _ ?side1 ?side2 A2.out).mono ?_); (case side1 => exact skC HR0.out); (case side2 => exact HC0.out); rintro e w4 ⟨rfl, hb⟩; refine ⟨_, rfl, ?_⟩; have n0_ := asd (below_step (skB HB.out) hb); clear HB; have HB := n0_; clear n0_; (try clear hb); (try clear hb2); (try clear hk); (try clear hi)))
  go_ret2
  exact ⟨re, skB HB.out⟩
 ·
  rw [if_neg c3] at H
  have c3b0 : (t224 == 0) = false := beq_eq_false_iff_ne.mpr c3
  have c3b1 : (t224 != 0) = true := bne_iff_ne.mpr c3
  simp only [Option.some.injEq, Prod.mk.injEq] at H
  obtain ⟨rfl, rfl⟩ := H
  go_enter Try.func26, Try.ntmps26
  go_wp2_with (first | ((with_reducible refine gate_callee (f := 24) rfl ?_); refine goesL_ (some 8) rfl rfl Try.func24 (by kernel_rfl) rfl #[.slice A0 l0.length c0] rfl ags ?_; (with_reducible refine (larchref05_Width.calls k _ _ l0 t223 t224 _ ?side1 ?side2 A2.out).mono ?_); (case side1 => exact skC HR0.out); (case side2 => exact HC0.out); rintro e w5 ⟨rfl, hb⟩; refine ⟨_, rfl, ?_⟩; have n0_ := asd (below_step (skB HB.out) hb); clear HB; have HB := n0_; clear n0_; (try clear hb); (try clear hb2); (try clear hk); (try clear hi)))
  go_ret2
  exact ⟨re, skB HB.out⟩
end Go.Proofs.Ytagdkmcgepidoaa.P
