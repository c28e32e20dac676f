/- P.modelMemory_holds, part 27 of 37: the contracts of the Go functions that the law calls, its own walk, and its plain law, for every input that the statement speaks of. -/
import Derived.Test.YtanlnfcjdjamaaaMMe2
import Derived.Test.YtanlnfcjdjamaaaMMe16
import Derived.Test.YtanlnfcjdjamaaaMMe1
import Derived.Test.YtanlnfcjdjamaaaMMe19
import Derived.Test.YtanlnfcjdjamaaaMMe17
set_option linter.unusedVariables false
set_option linter.unusedSimpArgs false
/- F36 -/
namespace Go.Proofs.Ytanlnfcjdjamaaa.P
open Go.RowKit Go.Proofs.YtanlnfcjdjamaaaW.PrintWords Go.Proofs.YtanlnfcjdjamaaaW.PrintLast Go.Proofs.YtanlnfcjdjamaaaW.PrintMore
attribute [local go_sem] max2_int min2_int max_two min_two max_three min_three max_four min_four   -- for this text's walks alone
set_option linter.unusedVariables false
set_option linter.unusedSimpArgs false
mutual
def larchref06_Run.l0 : Nat → List (S51) → List (S25) → Int → Option ((List (S51)) × (List (S27)) × Int)
 | 0, _, _, _ => none
 | k + 1, x0, x1, x7 => if x7 < (x1.length : Int) then (if 0 ≤ x7 then ((larchref06_Kind.f ((J25 x1 x7).f0)).bind fun t247 => (if t247 = 0 then (larchref06_Run.l0 k x0 x1 (wrap64 (x7 + 1))) else (some (([] : List (S51)), ([] : List (S27)), 5)))) else (none)) else ((some (([] : List (S51)) : List (S51))).bind fun y248 => (if y248.length + x0.length < 8796093022208 then (larchref06_Run.l1 k x1 ([] : List (S27)) (y248 ++ x0) 0) else (none)))
def larchref06_Run.l1 : Nat → List (S25) → List (S27) → List (S51) → Int → Option ((List (S51)) × (List (S27)) × Int)
 | 0, _, _, _, _ => none
 | k + 1, x1, x8, x9, x10 => if x10 < (x1.length : Int) then (if 0 ≤ x10 then ((larchref06_Step.f x9 ((J25 x1 x10).f0) ((J25 x1 x10).f1) ((J25 x1 x10).f2) ((J25 x1 x10).f3)).bind fun bt255 => (if x8.length < 2932031007402 then (larchref06_Run.l1 k x1 (x8 ++ [(⟨bt255.2.1, bt255.2.2.1, bt255.2.2.2.1, bt255.2.2.2.2⟩ : S27)]) bt255.1 (wrap64 (x10 + 1))) else (none))) else (none)) else (some (x9, x8, 0))
end
def larchref06_Run.f (k : Nat) (l0 : List (S51)) (l1 : List (S25)) : Option ((List (S51)) × (List (S27)) × Int) := (larchref06_Check.f k l0).bind fun t245 => (if t245 = 0 then (larchref06_Run.l0 k l0 l1 0) else (some (([] : List (S51)), ([] : List (S27)), 11)))
set_option maxHeartbeats 8000000 in
set_option maxRecDepth 100000 in
theorem larchref06_Run.calls (k : Nat) (A0 : Option Addr) (c0 : Nat) (l0 : List (S51)) (A1 : Option Addr) (c1 : Nat) (l1 : List (S25)) (r1 : List (S51)) (r2 : List (S27)) (r3 : Int) (w : World) (hr0 : Kd.C k51 w A0 l0.length l0) (hc0 : l0.length ≤ c0) (hr1 : Kd.C k25 w A1 l1.length l1) (hc1 : l1.length ≤ c1) (h : larchref06_Run.f k l0 l1 = some (r1, r2, r3)) :
  Calls Try.prog 16 #[.slice A0 l0.length c0, .slice A1 l1.length c1] w fun e w' => ∃ v0_ v1_ : Value, e = .returned (.tuple #[v0_, v1_, .int .i64 r3]) ∧ Kd.R k51 51 w' w.heap.size (fun _ => True) v0_ r1 ∧ Kd.S k27 27 w' w.heap.size (fun k_ => some k_ ≠ (v0_ : Value).ownBlock) v1_ r2 ∧ Below w.heap.size w w' := by
 have hu25 := Try.underlying25
 have hu27 := Try.underlying27
 have HR0 := asd hr0
 have HC0 := asd hc0
 clear hr0 hc0
 have HR1 := asd hr1
 have HC1 := asd hc1
 clear hr1 hc1
 have HB := asd (Below.refl w.heap.size w)
 have H : ((larchref06_Check.f k l0).bind fun t245 => (if t245 = 0 then (larchref06_Run.l0 k l0 l1 0) else (some (([] : List (S51)), ([] : List (S27)), 11)))) = some (r1, r2, r3) := h
 clear h
 replace H := Option.bind_eq_some_iff.mp H
 obtain ⟨t245, A30, H⟩ := H
 replace H : (if t245 = 0 then (larchref06_Run.l0 k l0 l1 0) else (some (([] : List (S51)), ([] : List (S27)), 11))) = some (r1, r2, r3) := H
 have A3 := asd A30
 clear A30
 by_cases c4 : t245 = 0
 ·
  rw [if_pos c4] at H
  have c4b0 : (t245 == 0) = true := beq_iff_eq.mpr c4
  have c4b1 : (t245 != 0) = false := bne_eq_false_iff_eq.mpr c4
  clear c4
  have H' := asd H
  clear H
  go_enter Try.func16, Try.ntmps16
  go_wp2_with (first | ((with_reducible refine gate_callee (f := 30) rfl ?_); refine goesL_ (some 14) rfl rfl Try.func30 (by kernel_rfl) rfl #[.slice A0 l0.length c0] rfl ags ?_; (with_reducible refine (larchref06_Check.calls k _ _ l0 t245 _ ?side1 ?side2 A3.out).mono ?_); (case side1 => exact skC HR0.out); (case side2 => exact HC0.out); rintro e w' ⟨rfl, ⟨nd, rfl⟩⟩; refine ⟨_, rfl, ?_⟩))
  go_loopg [7] k (fun kq v7 w' => ∃ (x7_1 : Int), v7 = .int .i64 x7_1 ∧ Aside0 (larchref06_Run.l0 kq l0 l1 x7_1 = some (r1, r2, r3)) ∧ Aside0 (kq ≤ k) ∧ Aside0 (Below w.heap.size w w'))
  case atStart => exact ⟨(0), rs, H', ⟨Nat.le_refl _⟩, ⟨skB HB.out⟩⟩
  case round =>
   clear H'
   try clear c1
   try clear p2
   try clear c3
   try clear c4
   try clear c4b0
   try clear c4b1
   obtain ⟨x7_1, rfl, HA, HK1, HB⟩ := hrel
   cases gk with
   | zero => exact absurd HA.out (by simp [larchref06_Run.l0])
   | succ k1 =>
    have H := HA.out
    clear HA
    simp only [larchref06_Run.l0] at H
    by_cases c5 : x7_1 < (l1.length : Int)
    ·
     rw [if_pos c5] at H
     have c5b0 : decide (x7_1 < (l1.length : Int)) = true := decide_eq_true c5
     clear c5
     by_cases c6 : 0 ≤ x7_1
     ·
      rw [if_pos c6] at H
      have c6b0 : decide (0 ≤ x7_1) = true := decide_eq_true c6
      clear c6
      replace H := Option.bind_eq_some_iff.mp H
      obtain ⟨t247, A70, H⟩ := H
      replace H : (if t247 = 0 then (larchref06_Run.l0 k1 l0 l1 (wrap64 (x7_1 + 1))) else (some (([] : List (S51)), ([] : List (S27)), 5))) = some (r1, r2, r3) := H
      have A7 := asd A70
      clear A70
      by_cases c8 : t247 = 0
      ·
       rw [if_pos c8] at H
       have c8b0 : (t247 == 0) = true := beq_iff_eq.mpr c8
       have c8b1 : (t247 != 0) = false := bne_eq_false_iff_eq.mpr c8
       clear c8
       have H' := asd H
       clear H
       have p246 : 0 ≤ (x7_1 : Int) := dt
       have q246 : x7_1 < (l1.length : Int) := dt
       obtain ⟨ad246, e246, hx246_0, hx246_1, hx246_2, hx246_3⟩ := at_T25 HR1.out x7_1 p246 q246
       cases e246
       replace hx246_0 := skc HB.out hx246_0
       replace hx246_1 := skc HB.out hx246_1
       replace hx246_2 := skc HB.out hx246_2
       replace hx246_3 := skc HB.out hx246_3
       replace p246 := eq_true p246
       replace q246 := eq_true q246
       go_wp2_with (first | ((with_reducible refine gate_callee (f := 31) rfl ?_); refine goesL_ (some 27) rfl rfl Try.func31 (by kernel_rfl) rfl #[.int .i64 ((J25 l1 x7_1).f0)] rfl ags ?_; (with_reducible refine (larchref06_Kind.calls ((J25 l1 x7_1).f0) t247 _ A7.out).mono ?_); rintro e w' ⟨rfl, ⟨nd, rfl⟩⟩; refine ⟨_, rfl, ?_⟩))
       go_roundg k1
       case measure => have := HK1.out; omega
       case rel => exact ⟨(wrap64 (x7_1 + 1)), rs, H', ⟨by have := HK1.out; omega⟩, ⟨skB HB.out⟩⟩
      ·
       rw [if_neg c8] at H
       have c8b0 : (t247 == 0) = false := beq_eq_false_iff_ne.mpr c8
       have c8b1 : (t247 != 0) = true := bne_iff_ne.mpr c8
       simp only [Option.some.injEq, Prod.mk.injEq] at H
       obtain ⟨rfl, rfl, rfl⟩ := H
       have p246 : 0 ≤ (x7_1 : Int) := dt
       have q246 : x7_1 < (l1.length : Int) := dt
       obtain ⟨ad246, e246, hx246_0, hx246_1, hx246_2, hx246_3⟩ := at_T25 HR1.out x7_1 p246 q246
       cases e246
       replace hx246_0 := skc HB.out hx246_0
       replace hx246_1 := skc HB.out hx246_1
       replace hx246_2 := skc HB.out hx246_2
       replace hx246_3 := skc HB.out hx246_3
       replace p246 := eq_true p246
       replace q246 := eq_true q246
       go_wp2_with (first | ((with_reducible refine gate_callee (f := 31) rfl ?_); refine goesL_ (some 27) rfl rfl Try.func31 (by kernel_rfl) rfl #[.int .i64 ((J25 l1 x7_1).f0)] rfl ags ?_; (with_reducible refine (larchref06_Kind.calls ((J25 l1 x7_1).f0) t247 _ A7.out).mono ?_); rintro e w' ⟨rfl, ⟨nd, rfl⟩⟩; refine ⟨_, rfl, ?_⟩))
       go_ret3
       exact ⟨_, _, re, by first | exact Kd.R_nil _ _ _ _ _ | exact Kd.N_nil _ _ _ _ _ | exact Kd.V_nil _ _ _ _ _ | exact Kd.Q_nil _ _ _ _ _ | exact Kd.S_nil _ _ _ _ _, by first | exact Kd.S_nil _ _ _ _ _ | exact Kd.N_nil _ _ _ _ _ | exact Kd.V_nil _ _ _ _ _ | exact Kd.Q_nil _ _ _ _ _ | exact Kd.R_nil _ _ _ _ _, skB HB.out⟩
     ·
      rw [if_neg c6] at H
      exact absurd H (by simp)
    ·
     rw [if_neg c5] at H
     have c5b0 : decide (x7_1 < (l1.length : Int)) = false := decide_eq_false c5
     clear c5
     obtain ⟨y248, hy248⟩ : ∃ y_ : List (S51), y_ = (([] : List (S51))) := ⟨_, rfl⟩
     replace H : (if y248.length + l0.length < 8796093022208 then (larchref06_Run.l1 k1 l1 ([] : List (S27)) (y248 ++ l0) 0) else (none)) = some (r1, r2, r3) := by first | (rw [hy248]; with_reducible exact H) | (have H2_ := (Option.bind_some _ _).symm.trans H; rw [hy248]; with_reducible exact H2_) | (have H2_ := (Option.bind_some _ _).symm.trans H; with_reducible exact H2_) | with_reducible exact H | (rw [hy248]; exact H) | exact H
     have Ny248 := asd hy248
     clear hy248
     by_cases c9 : y248.length + l0.length < 8796093022208
     ·
      rw [if_pos c9] at H
      have LMc9 := asd c9
      clear c9
      obtain ⟨y251, hy251⟩ : ∃ y_ : List (S51), y_ = (y248 ++ l0) := ⟨_, rfl⟩
      replace H : (larchref06_Run.l1 k1 l1 ([] : List (S27)) y251 0) = some (r1, r2, r3) := by first | (rw [hy251]; with_reducible exact H) | (have H2_ := (Option.bind_some _ _).symm.trans H; rw [hy251]; with_reducible exact H2_) | (have H2_ := (Option.bind_some _ _).symm.trans H; with_reducible exact H2_) | with_reducible exact H | (rw [hy251]; exact H) | exact H
      have Ny251 := asd hy251
      clear hy251
      have H' := asd H
      clear H
      go_wp2_with (first | ((with_reducible refine gate_dst (N := 29) rfl ?_); refine Kd.R_lit k51 _ 51 ?hg (N := 29) ?hd (xs := ([] : List (S51))) (inner := []) (ok := fun _ => True) (okp := fun _ => True) ?hr ?hp (fun _ hk => hk) trivial (Below.refl _ _) (Nat.le_refl _) (by simp) ?_; (case hd => rfl); (case hg => rfl); (case hr => first | (go_simp; done) | (go_simp; rfl)); (case hp => exact (Reps.none _ _)); intro v249 w10 ho11 hb hg_ hnew_; clear hg_ hnew_; (first | rw [← Ny248.out] at ho11 | (simp only [Int.reduceToNat] at ho11; rw [← Ny248.out] at ho11)); have n0_ := asd (Kd.R_lower ho11 (below_size (skB HB.out))); have n1_ := asd (below_step (skB HB.out) hb); clear HB; have HO250 := n0_; have HB := n1_; clear n0_ n1_; clear hb ho11) | ((with_reducible refine gate_builtin (b := .append) (xs := #[.tmp 29, .tmp 30]) rfl ?_); at_builtin; refine Kd.R_append_rows k51 (w0 := w) w.heap.size rfl (.tmp 29) (.tmp 30) 22 51 (.agg #[(.int .i64 0), (.int .i64 0)]) 16 rfl Try.underlying22 info51 rfl (by decide) (by omega) v249 y248 l0 _ _ _ (fun _ => True) (fun _ => False) rfl rfl ?aO ?aR (fun _ _ h => h) (fun _ h => h.elim) ?aF ?aB ?aS ?aL ?_; (case aR => exact skC (Kd.C_below HR0.out HB.out)); (case aB => exact (skB HB.out)); (case aF => exact (fun _ _ => trivial)); (case aO => exact (skR HO250.out)); (case aS => exact (below_size (skB HB.out))); (case aL => have := LMc9.out; omega); intro v252 w12 ho hb hg hat; rw [← Ny251.out] at ho; have n0_ := asd (hb); have n1_ := asd (ho); clear HB; clear HO250; have HB := n0_; have HO253 := n1_; clear n0_ n1_; clear ho hb hg hat))
      go_loopg [8, 9, 10] k1 (fun kq v8 v9 v10 w' => ∃ (x8_2 : List (S27)) (x9_2 : List (S51)) (x10_2 : Int), v10 = .int .i64 x10_2 ∧ Aside0 (larchref06_Run.l1 kq l1 x8_2 x9_2 x10_2 = some (r1, r2, r3)) ∧ Aside0 (kq ≤ k1) ∧ Aside0 (Kd.S k27 27 w' w.heap.size (fun k_ => some k_ ≠ (v9 : Value).ownBlock) v8 x8_2) ∧ Aside0 (Kd.R k51 51 w' w.heap.size (fun _ => True) v9 x9_2) ∧ Aside0 (Below w.heap.size w w'))
      case atStart => exact ⟨(([] : List (S27))), (y251), (0), rs, H', ⟨Nat.le_refl _⟩, ⟨by first | exact Kd.S_nil _ _ _ _ _ | exact Kd.N_nil _ _ _ _ _ | exact Kd.V_nil _ _ _ _ _ | exact Kd.Q_nil _ _ _ _ _ | exact Kd.R_nil _ _ _ _ _⟩, ⟨skR HO253.out⟩, ⟨skB HB.out⟩⟩
      case round =>
       clear H'
       try clear c1
       try clear p2
       try clear q2
       try clear hx2
       try clear c3
       try clear c4
       try clear c4b0
       try clear c4b1
       try clear c5
       try clear c5b0
       try clear c6
       try clear c6b0
       try clear p6
       try clear c8
       try clear c8b0
       try clear c8b1
       try clear c9
       try clear hx246_0
       try clear hx246_1
       try clear hx246_2
       try clear hx246_3
       try clear p2
       try clear p246
       try clear q246
       obtain ⟨x8_2, x9_2, x10_2, rfl, HA, HK2, HO_8, HO_9, HB⟩ := hrel
       cases gk with
       | zero => exact absurd HA.out (by simp [larchref06_Run.l1])
       | succ k2 =>
        have H := HA.out
        clear HA
        simp only [larchref06_Run.l1] at H
        by_cases c13 : x10_2 < (l1.length : Int)
        ·
         rw [if_pos c13] at H
         have c13b0 : decide (x10_2 < (l1.length : Int)) = true := decide_eq_true c13
         clear c13
         by_cases c14 : 0 ≤ x10_2
         ·
          rw [if_pos c14] at H
          have c14b0 : decide (0 ≤ x10_2) = true := decide_eq_true c14
          clear c14
          replace H := Option.bind_eq_some_iff.mp H
          obtain ⟨⟨t255, t258, t259, t260, t261⟩, A150, H⟩ := H
          replace H : (if x8_2.length < 2932031007402 then (larchref06_Run.l1 k2 l1 (x8_2 ++ [(⟨t258, t259, t260, t261⟩ : S27)]) t255 (wrap64 (x10_2 + 1))) else (none)) = some (r1, r2, r3) := H
          have A15 := asd A150
          clear A150
          by_cases c16 : x8_2.length < 2932031007402
          ·
           rw [if_pos c16] at H
           have LMc16 := asd c16
           clear c16
           obtain ⟨y265, hy265⟩ : ∃ y_ : List (S27), y_ = (x8_2 ++ [(⟨t258, t259, t260, t261⟩ : S27)]) := ⟨_, rfl⟩
           replace H : (larchref06_Run.l1 k2 l1 y265 t255 (wrap64 (x10_2 + 1))) = some (r1, r2, r3) := by first | (rw [hy265]; with_reducible exact H) | (have H2_ := (Option.bind_some _ _).symm.trans H; rw [hy265]; with_reducible exact H2_) | (have H2_ := (Option.bind_some _ _).symm.trans H; with_reducible exact H2_) | with_reducible exact H | (rw [hy265]; exact H) | exact H
           have Ny265 := asd hy265
           clear hy265
           have H' := asd H
           clear H
           have p254 : 0 ≤ (x10_2 : Int) := dt
           have q254 : x10_2 < (l1.length : Int) := dt
           obtain ⟨ad254, e254, hx254_0, hx254_1, hx254_2, hx254_3⟩ := at_T25 HR1.out x10_2 p254 q254
           cases e254
           replace hx254_0 := skc HB.out hx254_0
           replace hx254_1 := skc HB.out hx254_1
           replace hx254_2 := skc HB.out hx254_2
           replace hx254_3 := skc HB.out hx254_3
           replace p254 := eq_true p254
           replace q254 := eq_true q254
           obtain ⟨Ao17, co17, eo17⟩ := Kd.R_slice HO_9.out
           subst eo17
           go_wp2_with (first | ((with_reducible refine gate_callee (f := 39) rfl ?_); refine goesL_ (some 44) rfl rfl Try.func39 (by kernel_rfl) rfl #[.slice Ao17 x9_2.length co17, .agg #[.int .i64 ((J25 l1 x10_2).f0), .int .i64 ((J25 l1 x10_2).f1), .int .i64 ((J25 l1 x10_2).f2), .int .i64 ((J25 l1 x10_2).f3)]] rfl ags ?_; (with_reducible refine (larchref06_Step.calls _ _ x9_2 ((J25 l1 x10_2).f0) ((J25 l1 x10_2).f1) ((J25 l1 x10_2).f2) ((J25 l1 x10_2).f3) t255 t258 t259 t260 t261 _ ?side1 ?side2 A15.out).mono ?_); (case side1 => exact skC (Kd.R_reads' HO_9.out).2.2); (case side2 => exact (Kd.R_reads' HO_9.out).2.1); rintro e w18 ⟨v256, v262, rfl, ho0, ho1, hb⟩; refine ⟨_, rfl, ?_⟩; have n0_ := asd (Kd.S_mono (Kd.S_told (Kd.S_told (Kd.S_old (by (with_reducible repeat (first | apply Kd.S_alloc | apply Kd.S_drewN | apply Kd.S_drew)); exact HO_8.out) hb) (Kd.R_base ho0)) (Kd.R_base ho1)) (fun _ h_ => h_.1)); have n1_ := asd (Kd.R_mono (Kd.R_told (Kd.R_told (Kd.R_old (skR HO_9.out) hb) (Kd.R_base ho0)) (Kd.R_base ho1)) (fun _ h_ => h_.1)); have n2_ := asd (Kd.R_lower (Kd.R_new' ho0 (Kd.R_lt (skR HO_9.out))) (below_size (skB HB.out))); have n3_ := asd (Kd.R_lower (Kd.R_new' ho1 (Kd.R_lt (skR HO_9.out))) (below_size (skB HB.out))); have n4_ := asd (below_step (skB HB.out) hb); clear HO_8; clear HO_9; clear HB; have HO_8 := n0_; have HO_9 := n1_; have HO257 := n2_; have HO263 := n3_; have HB := n4_; clear n0_ n1_ n2_ n3_ n4_; (try clear hb); (try clear hb2); (try clear hk); (try clear hi); (try clear ho0); (try clear ho1)) | ((with_reducible refine gate_dst (N := 12) rfl ?_); refine box_event ?hg (N := 12) ?hd (cs := #[.bool false, .int .i64 0, .int .i64 0, .slice none 0 0]) (t := 27) ?hr ?_; (case hd => rfl); (case hg => rfl); (case hr => first | (go_simp; done) | (go_simp; rfl)); intro gb264 hg w19 hbox hb; have n0_ := asd (Kd.S_below (Kd.S_elderB (by (with_reducible repeat (first | apply Kd.S_alloc | apply Kd.S_drewN | apply Kd.S_drew)); exact HO_8.out) gb264 (Nat.le_of_eq hg.symm)) hb); have n1_ := asd (Kd.R_below (skR HO_9.out) hb); have n2_ := asd (Kd.R_below (skR HO257.out) hb); have n3_ := asd (Kd.R_below (skR HO263.out) hb); have n4_ := asd (below_step (skB HB.out) hb); have n5_ := asd (hbox); have n6_ := asd ((by rw [hg]; exact (below_size (skB HB.out)) : w.heap.size ≤ gb264)); have n7_ := asd ((by rw [hg]; exact (below_size (skB HB.out)) : w.heap.size ≤ gb264)); clear HO_8; clear HO_9; clear HO257; clear HO263; clear HB; have HO_8 := n0_; have HO_9 := n1_; have HO257 := n2_; have HO263 := n3_; have HB := n4_; have BK264 := n5_; have GW264 := n6_; have GE264 := n7_; clear n0_ n1_ n2_ n3_ n4_ n5_ n6_ n7_; clear hb hbox hg; obtain ⟨hcz20_0, hcz20_1, hcz20_2, hcz20_3, hfz20_0, hfz20_1, hfz20_2, hfz20_3⟩ := bk4 BK264.out; obtain ⟨Ao21, co21, eo21⟩ := Kd.R_slice HO263.out; subst eo21) | ((with_reducible refine gate_store (t := 27) (p := 12) rfl ?_); refine store_event (t := 27) (p := 12) (v := ?vo_w22) (w1 := ((((w19.setCell ⟨gb264, 0, none⟩ (.bool t258)).setCell ⟨gb264, 1, none⟩ (.int .i64 t259)).setCell ⟨gb264, 2, none⟩ (.int .i64 t260)).setCell ⟨gb264, 3, none⟩ (.slice Ao21 t261.length co21))) ?hg ?ho ?hn ?hr ?_; (case ho => rfl); (case hg => rfl); (case hn => rfl); (case hr => first | (go_simp; done) | (go_simp; rfl)); intro w22 hw; have n0_ : Aside0 (Kd.S k27 27 w22 w.heap.size (fun k_ => some k_ ≠ (.slice Ao17 x9_2.length co17 : Value).ownBlock ∧ some k_ ≠ (v256 : Value).ownBlock ∧ some k_ ≠ (.slice Ao21 t261.length co21 : Value).ownBlock ∧ k_ ≠ gb264) u8 x8_2) := ⟨(by rw [hw]; exact (by (with_reducible repeat (first | apply Kd.S_alloc | apply Kd.S_drewN | apply Kd.S_drew)); exact Kd.S_mono (Kd.S_far (p := ⟨gb264, 3, none⟩) (Kd.S_far (p := ⟨gb264, 2, none⟩) (Kd.S_far (p := ⟨gb264, 1, none⟩) (Kd.S_far (p := ⟨gb264, 0, none⟩) (Kd.S_mono HO_8.out (fun k_ hk => (⟨hk, hk.2⟩ : _ ∧ k_ ≠ gb264))) (fun _ hk => hk.2) (.bool t258)) (fun _ hk => hk.2) (.int .i64 t259)) (fun _ hk => hk.2) (.int .i64 t260)) (fun _ hk => hk.2) (.slice Ao21 t261.length co21)) (fun _ hk => ⟨hk.1.1.1.1, ⟨hk.1.1.1.2, ⟨hk.1.1.2, hk.1.2⟩⟩⟩)))⟩; have n1_ : Aside0 (Kd.R k51 51 w22 w.heap.size (fun k_ => some k_ ≠ (v256 : Value).ownBlock ∧ some k_ ≠ (.slice Ao21 t261.length co21 : Value).ownBlock) (.slice Ao17 x9_2.length co17) x9_2) := ⟨(by rw [hw]; exact (skR (Kd.R_mono (Kd.R_far (p := ⟨gb264, 3, none⟩) (Kd.R_far (p := ⟨gb264, 2, none⟩) (Kd.R_far (p := ⟨gb264, 1, none⟩) (Kd.R_far (p := ⟨gb264, 0, none⟩) (Kd.R_types HO_9.out BK264.out (by decide)) (fun _ hk => hk.2) (.bool t258)) (fun _ hk => hk.2) (.int .i64 t259)) (fun _ hk => hk.2) (.int .i64 t260)) (fun _ hk => hk.2) (.slice Ao21 t261.length co21)) (fun _ hk => ⟨hk.1.1.2, hk.1.2⟩))))⟩; have n2_ : Aside0 (Kd.R k51 51 w22 w.heap.size (fun k_ => some k_ ≠ (.slice Ao17 x9_2.length co17 : Value).ownBlock ∧ some k_ ≠ (.slice Ao21 t261.length co21 : Value).ownBlock) v256 t255) := ⟨(by rw [hw]; exact (skR (Kd.R_mono (Kd.R_far (p := ⟨gb264, 3, none⟩) (Kd.R_far (p := ⟨gb264, 2, none⟩) (Kd.R_far (p := ⟨gb264, 1, none⟩) (Kd.R_far (p := ⟨gb264, 0, none⟩) (Kd.R_types HO257.out BK264.out (by decide)) (fun _ hk => hk.2) (.bool t258)) (fun _ hk => hk.2) (.int .i64 t259)) (fun _ hk => hk.2) (.int .i64 t260)) (fun _ hk => hk.2) (.slice Ao21 t261.length co21)) (fun _ hk => ⟨hk.1.2, hk.1.1⟩))))⟩; have n3_ : Aside0 (Kd.R k51 51 w22 w.heap.size (fun k_ => some k_ ≠ (.slice Ao17 x9_2.length co17 : Value).ownBlock ∧ some k_ ≠ (v256 : Value).ownBlock) (.slice Ao21 t261.length co21) t261) := ⟨(by rw [hw]; exact (skR (Kd.R_mono (Kd.R_far (p := ⟨gb264, 3, none⟩) (Kd.R_far (p := ⟨gb264, 2, none⟩) (Kd.R_far (p := ⟨gb264, 1, none⟩) (Kd.R_far (p := ⟨gb264, 0, none⟩) (Kd.R_types HO263.out BK264.out (by decide)) (fun _ hk => hk.2) (.bool t258)) (fun _ hk => hk.2) (.int .i64 t259)) (fun _ hk => hk.2) (.int .i64 t260)) (fun _ hk => hk.2) (.slice Ao21 t261.length co21)) (fun _ hk => ⟨hk.1.2, hk.1.1⟩))))⟩; have n4_ : Aside0 (w22.heap[gb264]? = some (.cells #[.bool t258, .int .i64 t259, .int .i64 t260, .slice Ao21 t261.length co21] 27 (0, 0))) := ⟨(by rw [hw]; exact (by refine skk ?_; refine blk_put (cs := #[.bool t258, .int .i64 t259, .int .i64 t260, .slice none 0 0]) ?_ 3 _ rfl; refine skk ?_; refine blk_put (cs := #[.bool t258, .int .i64 t259, .int .i64 0, .slice none 0 0]) ?_ 2 _ rfl; refine skk ?_; refine blk_put (cs := #[.bool t258, .int .i64 0, .int .i64 0, .slice none 0 0]) ?_ 1 _ rfl; refine skk ?_; refine blk_put (cs := #[.bool false, .int .i64 0, .int .i64 0, .slice none 0 0]) ?_ 0 _ rfl; refine skk ?_; exact BK264.out))⟩; have n5_ : Aside0 (Below w.heap.size w w22) := ⟨(by rw [hw]; exact (skG HB.out GE264.out GE264.out))⟩; clear hw; clear HO_8; clear HO_9; clear HO257; clear HO263; clear BK264; clear HB; have HO_8 := n0_; have HO_9 := n1_; have HO257 := n2_; have HO263 := n3_; have BK264 := n4_; have HB := n5_; clear n0_ n1_ n2_ n3_ n4_ n5_; obtain ⟨hcz23_0, hcz23_1, hcz23_2, hcz23_3, hfz23_0, hfz23_1, hfz23_2, hfz23_3⟩ := bk4 BK264.out) | ((with_reducible refine gate_builtin (b := .append) (xs := #[.tmp 48, .tmp 50]) rfl ?_); at_builtin; refine Kd.S_append k27 (w0 := w) w.heap.size rfl (.tmp 48) (.tmp 50) 38 27 (.agg #[(.bool false), (.int .i64 0), (.int .i64 0), (.slice none 0 0)]) 48 rfl Try.underlying38 info27 rfl (by decide) (by omega) u8 x8_2 (⟨t258, t259, t260, t261⟩ : S27) [.bool t258, .int .i64 t259, .int .i64 t260, .slice Ao21 t261.length co21] (fun k_ => some k_ ≠ (.slice Ao17 x9_2.length co17 : Value).ownBlock ∧ some k_ ≠ (v256 : Value).ownBlock ∧ k_ ≠ gb264) (fun k_ => some k_ = (.slice Ao21 t261.length co21 : Value).ownBlock) rfl rfl ?aP (fun k_ hk_ => ((Kd.R_mono (ok' := fun k_ => ((fun k_ => some k_ ≠ (.slice Ao17 x9_2.length co17 : Value).ownBlock ∧ some k_ ≠ (v256 : Value).ownBlock ∧ k_ ≠ gb264)) k_ ∧ some k_ ≠ (u8 : Value).ownBlock) (Kd.R_types (Kd.R_apart' (HO263.out) (Kd.S_typed HO_8.out) (by decide)) BK264.out (by decide)) (fun k_ hk => ⟨⟨hk.1.1.1, ⟨hk.1.1.2, hk.2⟩⟩, hk.1.2⟩))).1 k_ hk_.symm) ?aF ?aO ?aB ?aS ?aL ?_; (case aP => exact k27_mkM _ _ _ (⟨t258, t259, t260, t261⟩ : S27) (Kd.R_mono (Kd.R_tight rfl (Kd.R_mono (ok' := fun k_ => ((fun k_ => some k_ ≠ (.slice Ao17 x9_2.length co17 : Value).ownBlock ∧ some k_ ≠ (v256 : Value).ownBlock ∧ k_ ≠ gb264)) k_ ∧ some k_ ≠ (u8 : Value).ownBlock) (Kd.R_types (Kd.R_apart' (HO263.out) (Kd.S_typed HO_8.out) (by decide)) BK264.out (by decide)) (fun k_ hk => ⟨⟨hk.1.1.1, ⟨hk.1.1.2, hk.2⟩⟩, hk.1.2⟩))) (fun _ h_ => h_))); (case aB => exact (skG HB.out GE264.out GE264.out)); (case aF => exact (fun k_ hk => ⟨Kd.fresh' (Kd.R_lt (skR HO_9.out)) k_ hk, Kd.fresh' (Kd.R_lt (skR HO257.out)) k_ hk, Kd.freshB (g := gb264) (o := .cells #[.bool t258, .int .i64 t259, .int .i64 t260, .slice Ao21 t261.length co21] 27 (0, 0)) (skK BK264.out) k_ hk⟩)); (case aO => exact (by (with_reducible repeat (first | apply Kd.S_alloc | apply Kd.S_drewN | apply Kd.S_drew)); exact Kd.S_mono HO_8.out (fun k_ hk => ⟨⟨hk.1, ⟨hk.2.1, hk.2.2.2⟩⟩, fun e_ => hk.2.2.1 e_⟩))); (case aS => exact (below_size (skG HB.out GE264.out GE264.out))); (case aL => have := LMc16.out; omega); intro v266 w24 ho hb hg hat; rw [← Ny265.out] at ho; have n0_ := asd (Kd.R_over' (skR HO_9.out) (Kd.S_typed (by (with_reducible repeat (first | apply Kd.S_alloc | apply Kd.S_drewN | apply Kd.S_drew)); exact HO_8.out)) (by decide) hg); have n1_ := asd (Kd.R_over' (skR HO257.out) (Kd.S_typed (by (with_reducible repeat (first | apply Kd.S_alloc | apply Kd.S_drewN | apply Kd.S_drew)); exact HO_8.out)) (by decide) hg); have n2_ := asd (blk_grown (g := gb264) (o := .cells #[.bool t258, .int .i64 t259, .int .i64 t260, .slice Ao21 t261.length co21] 27 (0, 0)) (skK BK264.out) hg (Kd.S_away HO_8.out (fun _ hk => hk.2.2.2))); have n3_ := asd (hb); have n4_ := asd (ho); clear HO_9; clear HO257; clear BK264; clear HB; clear HO_8; clear HO263; have HO_9 := n0_; have HO257 := n1_; have BK264 := n2_; have HB := n3_; have HO267 := n4_; clear n0_ n1_ n2_ n3_ n4_; clear ho hb hg hat))
           go_roundg k2
           case measure => have := HK1.out; have := HK2.out; omega
           case rel => exact ⟨(y265), (t255), (wrap64 (x10_2 + 1)), rs, H', ⟨by have := HK1.out; have := HK2.out; omega⟩, ⟨by (with_reducible repeat (first | apply Kd.S_alloc | apply Kd.S_drewN | apply Kd.S_drew)); exact Kd.S_mono HO267.out (fun _ hk => hk.2.1)⟩, ⟨skR (Kd.R_mono HO257.out (fun _ hk => trivial))⟩, ⟨skG HB.out GE264.out GE264.out⟩⟩
          ·
           rw [if_neg c16] at H
           exact absurd H (by simp)
         ·
          rw [if_neg c14] at H
          exact absurd H (by simp)
        ·
         rw [if_neg c13] at H
         have c13b0 : decide (x10_2 < (l1.length : Int)) = false := decide_eq_false c13
         clear c13
         simp only [Option.some.injEq, Prod.mk.injEq] at H
         obtain ⟨rfl, rfl, rfl⟩ := H
         go_wp2
         go_ret3
         exact ⟨_, _, re, skR HO_9.out, by (with_reducible repeat (first | apply Kd.S_alloc | apply Kd.S_drewN | apply Kd.S_drew)); exact HO_8.out, skB HB.out⟩
     ·
      rw [if_neg c9] at H
      exact absurd H (by simp)
 ·
  rw [if_neg c4] at H
  have c4b0 : (t245 == 0) = false := beq_eq_false_iff_ne.mpr c4
  have c4b1 : (t245 != 0) = true := bne_iff_ne.mpr c4
  simp only [Option.some.injEq, Prod.mk.injEq] at H
  obtain ⟨rfl, rfl, rfl⟩ := H
  go_enter Try.func16, Try.ntmps16
  go_wp2_with (first | ((with_reducible refine gate_callee (f := 30) rfl ?_); refine goesL_ (some 14) rfl rfl Try.func30 (by kernel_rfl) rfl #[.slice A0 l0.length c0] rfl ags ?_; (with_reducible refine (larchref06_Check.calls k _ _ l0 t245 _ ?side1 ?side2 A3.out).mono ?_); (case side1 => exact skC HR0.out); (case side2 => exact HC0.out); rintro e w' ⟨rfl, ⟨nd, rfl⟩⟩; refine ⟨_, rfl, ?_⟩))
  go_ret3
  exact ⟨_, _, re, by first | exact Kd.R_nil _ _ _ _ _ | exact Kd.N_nil _ _ _ _ _ | exact Kd.V_nil _ _ _ _ _ | exact Kd.Q_nil _ _ _ _ _ | exact Kd.S_nil _ _ _ _ _, by first | exact Kd.S_nil _ _ _ _ _ | exact Kd.N_nil _ _ _ _ _ | exact Kd.V_nil _ _ _ _ _ | exact Kd.Q_nil _ _ _ _ _ | exact Kd.R_nil _ _ _ _ _, skB HB.out⟩
end Go.Proofs.Ytanlnfcjdjamaaa.P
/- F41 -/
namespace Go.Proofs.Ytanlnfcjdjamaaa.P
open Go.RowKit Go.Proofs.YtanlnfcjdjamaaaW.PrintWords Go.Proofs.YtanlnfcjdjamaaaW.PrintLast Go.Proofs.YtanlnfcjdjamaaaW.PrintMore
attribute [local go_sem] max2_int min2_int max_two min_two max_three min_three max_four min_four   -- for this text's walks alone
set_option linter.unusedVariables false
set_option linter.unusedSimpArgs false
def model_Fits.f (k : Nat) (l0 : List (S51)) (a1_0 : Int) (a1_1 : Int) (a1_2 : Int) (a1_3 : Int) (a2_0 : Bool) (a2_1 : Int) (a2_2 : Int) (l2_3 : List (S51)) : Option (Bool × Int) := (model_Do.f l0 a1_0 a1_1 a1_2 a1_3).bind fun bt279 => (if bt279.2.2.2.2.2 = 0 then ((model_SameRet.f k bt279.2.1 bt279.2.2.1 bt279.2.2.2.1 bt279.2.2.2.2.1 a2_0 a2_1 a2_2 l2_3).bind fun t290 => (some (t290, bt279.2.2.2.2.2))) else (some (false, bt279.2.2.2.2.2)))
end Go.Proofs.Ytanlnfcjdjamaaa.P
/- F42 -/
namespace Go.Proofs.Ytanlnfcjdjamaaa.P
open Go.RowKit Go.Proofs.YtanlnfcjdjamaaaW.PrintWords Go.Proofs.YtanlnfcjdjamaaaW.PrintLast Go.Proofs.YtanlnfcjdjamaaaW.PrintMore
attribute [local go_sem] max2_int min2_int max_two min_two max_three min_three max_four min_four   -- for this text's walks alone
set_option linter.unusedVariables false
set_option linter.unusedSimpArgs false
def larchref06_Fits.f (k : Nat) (l0 : List (S51)) (a1_0 : Int) (a1_1 : Int) (a1_2 : Int) (a1_3 : Int) (a2_0 : Bool) (a2_1 : Int) (a2_2 : Int) (l2_3 : List (S51)) : Option (Bool × Int) := (larchref06_Do.f k l0 a1_0 a1_1 a1_2 a1_3).bind fun bt293 => (if bt293.2.2.2.2.2 = 0 then ((larchref06_SameRet.f k a2_0 a2_1 a2_2 l2_3 bt293.2.1 bt293.2.2.1 bt293.2.2.2.1 bt293.2.2.2.2.1).bind fun t304 => (some (t304, 0))) else (some (false, bt293.2.2.2.2.2)))
end Go.Proofs.Ytanlnfcjdjamaaa.P
/- F24 -/
namespace Go.Proofs.Ytanlnfcjdjamaaa.P
open Go.RowKit Go.Proofs.YtanlnfcjdjamaaaW.PrintWords Go.Proofs.YtanlnfcjdjamaaaW.PrintLast Go.Proofs.YtanlnfcjdjamaaaW.PrintMore
attribute [local go_sem] max2_int min2_int max_two min_two max_three min_three max_four min_four   -- for this text's walks alone
set_option linter.unusedVariables false
set_option linter.unusedSimpArgs false
def larchlaw06_fixed.j0 : Nat → List (S51) → Bool → Option (Bool)
 | 0, _, _ => none
 | k + 1, x1, x32 => if x32 = true then (none) else ((model_Do.f x1 5 2 0 0).bind fun bt184 => (if bt184.2.2.2.2.2 = 0 then (if bt184.2.1 = true then (if bt184.2.2.1 = 5 then (if bt184.2.2.2.1 = 50 then ((model_Check.f k (([(⟨1, 0⟩ : S51), (⟨1, 0⟩ : S51)] : List (S51)))).bind fun t198 => (some (t198 == 11))) else (none)) else (none)) else (none)) else (none)))
def larchlaw06_fixed.f (k : Nat)  : Option (Bool) := (some (([(⟨2, 20⟩ : S51), (⟨5, 50⟩ : S51)] : List (S51)) : List (S51))).bind fun y166 => ((model_Do.f y166 2 3 7 0).bind fun bt169 => (if bt169.2.2.2.2.2 = 0 then (if bt169.2.1 = true then (larchlaw06_fixed.j0 k y166 true) else ((larchref06_Same.f k bt169.1 (([(⟨2, 20⟩ : S51), (⟨3, 7⟩ : S51), (⟨5, 50⟩ : S51)] : List (S51)))).bind fun t183 => (larchlaw06_fixed.j0 k y166 (!t183)))) else (larchlaw06_fixed.j0 k y166 true)))
theorem larchlaw06_fixed.mono_l : ∀ k, (∀ y0 y1, LeO (larchlaw06_fixed.j0 k y0 y1) (larchlaw06_fixed.j0 (k + 1) y0 y1))
 | 0 => fun _ _ r h => by simp [larchlaw06_fixed.j0] at h
 | k + 1 => by
  have ih0 := larchlaw06_fixed.mono_l k
  ·
   intro y0 y1
   unfold larchlaw06_fixed.j0
   repeat' first
   | (with_reducible exact ih0 _ _)
   | (with_reducible exact larchref06_Same.mono _ _ _)
   | (with_reducible exact model_Check.mono _ _)
   | (with_reducible exact LeO.refl _)
   | (with_reducible exact LeO.none _)
   | (with_reducible refine LeO.ite ?_ ?_)
   | (with_reducible refine LeO.bind ?_ (fun _ => ?_))
   | exact ih0 _ _
   | exact larchref06_Same.mono _ _ _
   | exact model_Check.mono _ _
   | exact LeO.none _
   | refine LeO.ite ?_ ?_
   | refine LeO.bind ?_ (fun _ => ?_)
theorem larchlaw06_fixed.mono : ∀ k, LeO (larchlaw06_fixed.f k ) (larchlaw06_fixed.f (k + 1) ) := by
 intro  k
 have ih0 := larchlaw06_fixed.mono_l k
 unfold larchlaw06_fixed.f
 repeat' first
   | (with_reducible exact ih0 _ _)
   | (with_reducible exact larchref06_Same.mono _ _ _)
   | (with_reducible exact model_Check.mono _ _)
   | (with_reducible exact LeO.refl _)
   | (with_reducible exact LeO.none _)
   | (with_reducible refine LeO.ite ?_ ?_)
   | (with_reducible refine LeO.bind ?_ (fun _ => ?_))
   | exact ih0 _ _
   | exact larchref06_Same.mono _ _ _
   | exact model_Check.mono _ _
   | exact LeO.none _
   | refine LeO.ite ?_ ?_
   | refine LeO.bind ?_ (fun _ => ?_)
set_option maxHeartbeats 8000000 in
set_option maxRecDepth 100000 in
theorem larchlaw06_fixed.calls (k : Nat)  (r : Bool) (w : World) (h : larchlaw06_fixed.f k  = some r) :
  Calls Try.prog 7 #[] w fun e w' => e = .returned (.bool r) ∧ Below w.heap.size w w' := by
 have hu51 := Try.underlying51
 have hu25 := Try.underlying25
 have hu27 := Try.underlying27
 have HB := asd (Below.refl w.heap.size w)
 have H : ((some (([(⟨2, 20⟩ : S51), (⟨5, 50⟩ : S51)] : List (S51)) : List (S51))).bind fun y166 => ((model_Do.f y166 2 3 7 0).bind fun bt169 => (if bt169.2.2.2.2.2 = 0 then (if bt169.2.1 = true then (larchlaw06_fixed.j0 k y166 true) else ((larchref06_Same.f k bt169.1 (([(⟨2, 20⟩ : S51), (⟨3, 7⟩ : S51), (⟨5, 50⟩ : S51)] : List (S51)))).bind fun t183 => (larchlaw06_fixed.j0 k y166 (!t183)))) else (larchlaw06_fixed.j0 k y166 true)))) = some r := h
 clear h
 obtain ⟨y166, hy166⟩ : ∃ y_ : List (S51), y_ = (([(⟨2, 20⟩ : S51), (⟨5, 50⟩ : S51)] : List (S51))) := ⟨_, rfl⟩
 replace H : ((model_Do.f y166 2 3 7 0).bind fun bt169 => (if bt169.2.2.2.2.2 = 0 then (if bt169.2.1 = true then (larchlaw06_fixed.j0 k y166 true) else ((larchref06_Same.f k bt169.1 (([(⟨2, 20⟩ : S51), (⟨3, 7⟩ : S51), (⟨5, 50⟩ : S51)] : List (S51)))).bind fun t183 => (larchlaw06_fixed.j0 k y166 (!t183)))) else (larchlaw06_fixed.j0 k y166 true))) = some r := by first | (rw [hy166]; with_reducible exact H) | (have H2_ := (Option.bind_some _ _).symm.trans H; rw [hy166]; with_reducible exact H2_) | (have H2_ := (Option.bind_some _ _).symm.trans H; with_reducible exact H2_) | with_reducible exact H | (rw [hy166]; exact H) | exact H
 have Ny166 := asd hy166
 clear hy166
 replace H := Option.bind_eq_some_iff.mp H
 obtain ⟨⟨t169, t172, t173, t174, t175, t178⟩, A10, H⟩ := H
 replace H : (if t178 = 0 then (if t172 = true then (larchlaw06_fixed.j0 k y166 true) else ((larchref06_Same.f k t169 (([(⟨2, 20⟩ : S51), (⟨3, 7⟩ : S51), (⟨5, 50⟩ : S51)] : List (S51)))).bind fun t183 => (larchlaw06_fixed.j0 k y166 (!t183)))) else (larchlaw06_fixed.j0 k y166 true)) = some r := H
 have A1 := asd A10
 clear A10
 have HC2 := asd H
 clear H
 go_enter Try.func7, Try.ntmps7
 go_upto_region 3 with (first | ((with_reducible refine gate_dst (N := 10) rfl ?_); (try (refine gate_guard (by rfl) ?_; dsimp only)); refine Kd.R_lit k51 _ 51 ?hg (N := 10) ?hd (xs := ([(⟨2, 20⟩ : S51), (⟨5, 50⟩ : S51)] : List (S51))) (inner := [.int .i64 2, .int .i64 20, .int .i64 5, .int .i64 50]) (ok := fun _ => True) (okp := fun _ => True) ?hr ?hp (fun _ hk => hk) trivial (Below.refl _ _) (Nat.le_refl _) (by simp) ?_; (case hd => rfl); (case hg => rfl); (case hr => first | (go_simp; done) | (go_simp; rfl)); (case hp => exact (Reps.c2 (show Kd.M k51 _ _ _ (⟨2, 20⟩ : S51) [.int .i64 2, .int .i64 20] from (k51_mkM _ _ _ (⟨2, 20⟩ : S51) )) (Reps.c2 (show Kd.M k51 _ _ _ (⟨5, 50⟩ : S51) [.int .i64 5, .int .i64 50] from (k51_mkM _ _ _ (⟨5, 50⟩ : S51) )) (Reps.none _ _)))); intro v167 w3 ho4 hb hg_ hnew_; clear hg_ hnew_; (first | rw [← Ny166.out] at ho4 | (simp only [Int.reduceToNat] at ho4; rw [← Ny166.out] at ho4)); have n0_ := asd (Kd.R_lower ho4 (below_size (skB HB.out))); have n1_ := asd (below_step (skB HB.out) hb); clear HB; have HO168 := n0_; have HB := n1_; clear n0_ n1_; clear hb ho4; obtain ⟨Ao5, co5, eo5⟩ := Kd.R_slice HO168.out; subst eo5) | ((with_reducible refine gate_callee (f := 9) rfl ?_); refine goesL_ (some 14) rfl rfl Try.func9 (by kernel_rfl) rfl #[.slice Ao5 y166.length co5, .agg #[.int .i64 2, .int .i64 3, .int .i64 7, .int .i64 0]] rfl ags ?_; (with_reducible refine (model_Do.calls _ _ y166 2 3 7 0 t169 t172 t173 t174 t175 t178 _ ?side1 ?side2 A1.out).mono ?_); (case side1 => exact skC (Kd.R_reads' HO168.out).2.2); (case side2 => exact (Kd.R_reads' HO168.out).2.1); rintro e w6 ⟨v170, v176, rfl, ho0, ho1, hb⟩; refine ⟨_, rfl, ?_⟩; have n0_ := asd (Kd.R_mono (Kd.R_told (Kd.R_told (Kd.R_old (skR HO168.out) hb) (Kd.R_base ho0)) (Kd.R_base ho1)) (fun _ h_ => h_.1)); have n1_ := asd (Kd.R_lower (Kd.R_new' ho0 (Kd.R_lt (skR HO168.out))) (below_size (skB HB.out))); have n2_ := asd (Kd.R_lower (Kd.R_new' ho1 (Kd.R_lt (skR HO168.out))) (below_size (skB HB.out))); have n3_ := asd (below_step (skB HB.out) hb); clear HO168; clear HB; have HO168 := n0_; have HO171 := n1_; have HO177 := n2_; have HB := n3_; clear n0_ n1_ n2_ n3_; (try clear hb); (try clear hb2); (try clear hk); (try clear hi); (try clear ho0); (try clear ho1)) | ((with_reducible refine gate_dst (N := 3) rfl ?_); (try (refine gate_guard (by rfl) ?_; dsimp only)); refine box_event ?hg (N := 3) ?hd (cs := #[.bool false, .int .i64 0, .int .i64 0, .slice none 0 0]) (t := 27) ?hr ?_; (case hd => rfl); (case hg => rfl); (case hr => first | (go_simp; done) | (go_simp; rfl)); intro gb179 hg w7 hbox hb; have n0_ := asd (Kd.R_below (skR HO168.out) hb); have n1_ := asd (Kd.R_below (skR HO171.out) hb); have n2_ := asd (Kd.R_below (skR HO177.out) hb); have n3_ := asd (below_step (skB HB.out) hb); have n4_ := asd (hbox); have n5_ := asd ((by rw [hg]; exact (below_size (skB HB.out)) : w.heap.size ≤ gb179)); have n6_ := asd ((by rw [hg]; exact (below_size (skB HB.out)) : w.heap.size ≤ gb179)); clear HO168; clear HO171; clear HO177; clear HB; have HO168 := n0_; have HO171 := n1_; have HO177 := n2_; have HB := n3_; have BK179 := n4_; have GW179 := n5_; have GE179 := n6_; clear n0_ n1_ n2_ n3_ n4_ n5_ n6_; clear hb hbox hg; obtain ⟨hcz8_0, hcz8_1, hcz8_2, hcz8_3, hfz8_0, hfz8_1, hfz8_2, hfz8_3⟩ := bk4 BK179.out; obtain ⟨Ao9, co9, eo9⟩ := Kd.R_slice HO177.out; subst eo9))
 (try simp only [Act.put, List.setIfInBounds_toArray, List.set_cons_zero, List.set_cons_succ])
 go_cut [32] (fun v32 wc => ∃ (kq : Nat) (x32_1 : Bool), v32 = .bool x32_1 ∧ Aside0 (larchlaw06_fixed.j0 kq y166 x32_1 = some r) ∧ Aside0 (kq ≤ k) ∧ Aside0 (Kd.R k51 51 wc w.heap.size (fun k_ => some k_ ≠ ((.slice Ao9 t175.length co9) : Value).ownBlock) (.slice Ao5 y166.length co5) y166) ∧ Aside0 (Kd.R k51 51 wc w.heap.size (fun k_ => some k_ ≠ ((.slice Ao5 y166.length co5) : Value).ownBlock) (.slice Ao9 t175.length co9) t175) ∧ Aside0 (wc.heap[gb179]? = some (.cells #[.bool t172, .int .i64 t173, .int .i64 t174, (.slice Ao9 t175.length co9)] 27 (0, 0))) ∧ Aside0 (Below w.heap.size w wc))
 case first =>
  have H := HC2.out
  clear HC2
  by_cases c10 : t178 = 0
  ·
   rw [if_pos c10] at H
   have c10b0 : (t178 == 0) = true := beq_iff_eq.mpr c10
   have c10b1 : (t178 != 0) = false := bne_eq_false_iff_eq.mpr c10
   clear c10
   (first | rw [c10b0] | (simp only [i64_w, i32_w]; rw [c10b0]) | skip)
   by_cases c11 : t172 = true
   ·
    subst c11
    have H1 : (larchlaw06_fixed.j0 k y166 true) = some r := by rw [if_pos rfl] at H; exact H
    clear H
    have H := H1
    clear H1
    have H' := asd H
    clear H
    obtain ⟨hcz12_0, hcz12_1, hcz12_2, hcz12_3, hfz12_0, hfz12_1, hfz12_2, hfz12_3⟩ := bk4 BK179.out
    go_wp2
    go_meet
    case rel => exact ⟨_, (true), rs, H', ⟨by first | omega | exact Nat.le_refl _⟩, ⟨skR (Kd.R_mono (Kd.R_far (p := ⟨gb179, 3, none⟩) (Kd.R_far (p := ⟨gb179, 2, none⟩) (Kd.R_far (p := ⟨gb179, 1, none⟩) (Kd.R_far (p := ⟨gb179, 0, none⟩) (Kd.R_types HO168.out BK179.out (by decide)) (fun _ hk => hk.2) (.bool true)) (fun _ hk => hk.2) (.int .i64 t173)) (fun _ hk => hk.2) (.int .i64 t174)) (fun _ hk => hk.2) (.slice Ao9 t175.length co9)) (fun _ hk => hk.1.2))⟩, ⟨skR (Kd.R_mono (Kd.R_far (p := ⟨gb179, 3, none⟩) (Kd.R_far (p := ⟨gb179, 2, none⟩) (Kd.R_far (p := ⟨gb179, 1, none⟩) (Kd.R_far (p := ⟨gb179, 0, none⟩) (Kd.R_types HO177.out BK179.out (by decide)) (fun _ hk => hk.2) (.bool true)) (fun _ hk => hk.2) (.int .i64 t173)) (fun _ hk => hk.2) (.int .i64 t174)) (fun _ hk => hk.2) (.slice Ao9 t175.length co9)) (fun _ hk => hk.1.2))⟩, ⟨by refine skk ?_; refine blk_put (cs := #[.bool true, .int .i64 t173, .int .i64 t174, .slice none 0 0]) ?_ 3 _ rfl; refine skk ?_; refine blk_put (cs := #[.bool true, .int .i64 t173, .int .i64 0, .slice none 0 0]) ?_ 2 _ rfl; refine skk ?_; refine blk_put (cs := #[.bool true, .int .i64 0, .int .i64 0, .slice none 0 0]) ?_ 1 _ rfl; refine skk ?_; refine blk_put (cs := #[.bool false, .int .i64 0, .int .i64 0, .slice none 0 0]) ?_ 0 _ rfl; refine skk ?_; exact BK179.out⟩, ⟨skG HB.out GE179.out GE179.out⟩⟩
   ·
    replace c11 := Bool.eq_false_iff.mpr c11
    subst c11
    have H1 : ((larchref06_Same.f k t169 (([(⟨2, 20⟩ : S51), (⟨3, 7⟩ : S51), (⟨5, 50⟩ : S51)] : List (S51)))).bind fun t183 => (larchlaw06_fixed.j0 k y166 (!t183))) = some r := by rw [if_neg (show ¬ (false = true) by decide)] at H; exact H
    clear H
    have H := H1
    clear H1
    obtain ⟨y180, hy180⟩ : ∃ y_ : List (S51), y_ = (([(⟨2, 20⟩ : S51), (⟨3, 7⟩ : S51), (⟨5, 50⟩ : S51)] : List (S51))) := ⟨_, rfl⟩
    replace H : ((larchref06_Same.f k t169 y180).bind fun t183 => (larchlaw06_fixed.j0 k y166 (!t183))) = some r := by first | (rw [hy180]; with_reducible exact H) | (have H2_ := (Option.bind_some _ _).symm.trans H; rw [hy180]; with_reducible exact H2_) | (have H2_ := (Option.bind_some _ _).symm.trans H; with_reducible exact H2_) | with_reducible exact H | (rw [hy180]; exact H) | exact H
    have Ny180 := asd hy180
    clear hy180
    replace H := Option.bind_eq_some_iff.mp H
    obtain ⟨t183, A130, H⟩ := H
    replace H : (larchlaw06_fixed.j0 k y166 (!t183)) = some r := H
    have A13 := asd A130
    clear A130
    have H' := asd H
    clear H
    obtain ⟨hcz14_0, hcz14_1, hcz14_2, hcz14_3, hfz14_0, hfz14_1, hfz14_2, hfz14_3⟩ := bk4 BK179.out
    go_wp2_with (first | ((with_reducible refine gate_dst (N := 29) rfl ?_); (try (refine gate_guard (by rfl) ?_; dsimp only)); refine Kd.R_lit k51 _ 51 ?hg (N := 29) ?hd (xs := ([(⟨2, 20⟩ : S51), (⟨3, 7⟩ : S51), (⟨5, 50⟩ : S51)] : List (S51))) (inner := [.int .i64 2, .int .i64 20, .int .i64 3, .int .i64 7, .int .i64 5, .int .i64 50]) (ok := fun _ => True) (okp := fun _ => True) ?hr ?hp (fun _ hk => hk) trivial (Below.refl _ _) (Nat.le_refl _) (by simp) ?_; (case hd => rfl); (case hg => rfl); (case hr => first | (go_simp; done) | (go_simp; rfl)); (case hp => exact (Reps.c2 (show Kd.M k51 _ _ _ (⟨2, 20⟩ : S51) [.int .i64 2, .int .i64 20] from (k51_mkM _ _ _ (⟨2, 20⟩ : S51) )) (Reps.c2 (show Kd.M k51 _ _ _ (⟨3, 7⟩ : S51) [.int .i64 3, .int .i64 7] from (k51_mkM _ _ _ (⟨3, 7⟩ : S51) )) (Reps.c2 (show Kd.M k51 _ _ _ (⟨5, 50⟩ : S51) [.int .i64 5, .int .i64 50] from (k51_mkM _ _ _ (⟨5, 50⟩ : S51) )) (Reps.none _ _))))); intro v181 w15 ho16 hb hg_ hnew_; clear hg_ hnew_; (first | rw [← Ny180.out] at ho16 | (simp only [Int.reduceToNat] at ho16; rw [← Ny180.out] at ho16)); have n0_ := asd (Kd.R_elder' (skR (Kd.R_mono (Kd.R_far (p := ⟨gb179, 3, none⟩) (Kd.R_far (p := ⟨gb179, 2, none⟩) (Kd.R_far (p := ⟨gb179, 1, none⟩) (Kd.R_far (p := ⟨gb179, 0, none⟩) (Kd.R_types HO168.out BK179.out (by decide)) (fun _ hk => hk.2) (.bool false)) (fun _ hk => hk.2) (.int .i64 t173)) (fun _ hk => hk.2) (.int .i64 t174)) (fun _ hk => hk.2) (.slice Ao9 t175.length co9)) (fun _ h_ => h_.1))) (Kd.R_base ho16) hb); have n1_ := asd (Kd.R_elder' (skR (Kd.R_mono (Kd.R_far (p := ⟨gb179, 3, none⟩) (Kd.R_far (p := ⟨gb179, 2, none⟩) (Kd.R_far (p := ⟨gb179, 1, none⟩) (Kd.R_far (p := ⟨gb179, 0, none⟩) (Kd.R_types HO171.out BK179.out (by decide)) (fun _ hk => hk.2) (.bool false)) (fun _ hk => hk.2) (.int .i64 t173)) (fun _ hk => hk.2) (.int .i64 t174)) (fun _ hk => hk.2) (.slice Ao9 t175.length co9)) (fun _ h_ => h_.1))) (Kd.R_base ho16) hb); have n2_ := asd (Kd.R_elder' (skR (Kd.R_mono (Kd.R_far (p := ⟨gb179, 3, none⟩) (Kd.R_far (p := ⟨gb179, 2, none⟩) (Kd.R_far (p := ⟨gb179, 1, none⟩) (Kd.R_far (p := ⟨gb179, 0, none⟩) (Kd.R_types HO177.out BK179.out (by decide)) (fun _ hk => hk.2) (.bool false)) (fun _ hk => hk.2) (.int .i64 t173)) (fun _ hk => hk.2) (.int .i64 t174)) (fun _ hk => hk.2) (.slice Ao9 t175.length co9)) (fun _ h_ => h_.1))) (Kd.R_base ho16) hb); have n3_ := asd (Kd.R_lower (Kd.R_new' (Kd.R_new' (Kd.R_new' ho16 (Kd.R_lt (skR (Kd.R_mono (Kd.R_far (p := ⟨gb179, 3, none⟩) (Kd.R_far (p := ⟨gb179, 2, none⟩) (Kd.R_far (p := ⟨gb179, 1, none⟩) (Kd.R_far (p := ⟨gb179, 0, none⟩) (Kd.R_types HO168.out BK179.out (by decide)) (fun _ hk => hk.2) (.bool false)) (fun _ hk => hk.2) (.int .i64 t173)) (fun _ hk => hk.2) (.int .i64 t174)) (fun _ hk => hk.2) (.slice Ao9 t175.length co9)) (fun _ h_ => h_.1))))) (Kd.R_lt (skR (Kd.R_mono (Kd.R_far (p := ⟨gb179, 3, none⟩) (Kd.R_far (p := ⟨gb179, 2, none⟩) (Kd.R_far (p := ⟨gb179, 1, none⟩) (Kd.R_far (p := ⟨gb179, 0, none⟩) (Kd.R_types HO171.out BK179.out (by decide)) (fun _ hk => hk.2) (.bool false)) (fun _ hk => hk.2) (.int .i64 t173)) (fun _ hk => hk.2) (.int .i64 t174)) (fun _ hk => hk.2) (.slice Ao9 t175.length co9)) (fun _ h_ => h_.1))))) (Kd.R_lt (skR (Kd.R_mono (Kd.R_far (p := ⟨gb179, 3, none⟩) (Kd.R_far (p := ⟨gb179, 2, none⟩) (Kd.R_far (p := ⟨gb179, 1, none⟩) (Kd.R_far (p := ⟨gb179, 0, none⟩) (Kd.R_types HO177.out BK179.out (by decide)) (fun _ hk => hk.2) (.bool false)) (fun _ hk => hk.2) (.int .i64 t173)) (fun _ hk => hk.2) (.int .i64 t174)) (fun _ hk => hk.2) (.slice Ao9 t175.length co9)) (fun _ h_ => h_.1))))) (below_size (skG HB.out GE179.out GE179.out))); have n4_ := asd (blk_below (g := gb179) (o := .cells #[.bool false, .int .i64 t173, .int .i64 t174, .slice Ao9 t175.length co9] 27 (0, 0)) (by refine skk ?_; refine blk_put (cs := #[.bool false, .int .i64 t173, .int .i64 t174, .slice none 0 0]) ?_ 3 _ rfl; refine skk ?_; refine blk_put (cs := #[.bool false, .int .i64 t173, .int .i64 0, .slice none 0 0]) ?_ 2 _ rfl; refine skk ?_; refine blk_put (cs := #[.bool false, .int .i64 0, .int .i64 0, .slice none 0 0]) ?_ 1 _ rfl; refine skk ?_; refine blk_put (cs := #[.bool false, .int .i64 0, .int .i64 0, .slice none 0 0]) ?_ 0 _ rfl; refine skk ?_; exact BK179.out) hb); have n5_ := asd (below_step (skG HB.out GE179.out GE179.out) hb); clear HO168; clear HO171; clear HO177; clear BK179; clear HB; have HO168 := n0_; have HO171 := n1_; have HO177 := n2_; have HO182 := n3_; have BK179 := n4_; have HB := n5_; clear n0_ n1_ n2_ n3_ n4_ n5_; clear hb ho16; obtain ⟨Ao17, co17, eo17⟩ := Kd.R_slice HO171.out; subst eo17; obtain ⟨Ao18, co18, eo18⟩ := Kd.R_slice HO182.out; subst eo18) | (go_at_call 12; (with_reducible refine (larchref06_Same.calls k _ _ t169 _ _ y180 t183 _ ?side1 ?side2 ?side3 ?side4 A13.out).mono ?_); (case side1 => exact skC (Kd.R_reads' HO171.out).2.2); (case side2 => exact (Kd.R_reads' HO171.out).2.1); (case side3 => exact skC (Kd.R_reads' HO182.out).2.2); (case side4 => exact (Kd.R_reads' HO182.out).2.1); rintro e w' ⟨rfl, ⟨nd, rfl⟩⟩))
    go_meet
    case rel => exact ⟨_, (!t183), rs, H', ⟨by first | omega | exact Nat.le_refl _⟩, ⟨skR (Kd.R_mono HO168.out (fun _ hk => hk.1.2))⟩, ⟨skR (Kd.R_mono HO177.out (fun _ hk => hk.1.2))⟩, ⟨skK BK179.out⟩, ⟨skG HB.out GE179.out GE179.out⟩⟩
  ·
   rw [if_neg c10] at H
   have c10b0 : (t178 == 0) = false := beq_eq_false_iff_ne.mpr c10
   have c10b1 : (t178 != 0) = true := bne_iff_ne.mpr c10
   (first | rw [c10b0] | (simp only [i64_w, i32_w]; rw [c10b0]) | skip)
   have H' := asd H
   clear H
   go_wp2
   go_meet
   case rel => exact ⟨_, (true), rs, H', ⟨by first | omega | exact Nat.le_refl _⟩, ⟨skR (Kd.R_mono (Kd.R_far (p := ⟨gb179, 3, none⟩) (Kd.R_far (p := ⟨gb179, 2, none⟩) (Kd.R_far (p := ⟨gb179, 1, none⟩) (Kd.R_far (p := ⟨gb179, 0, none⟩) (Kd.R_types HO168.out BK179.out (by decide)) (fun _ hk => hk.2) (.bool t172)) (fun _ hk => hk.2) (.int .i64 t173)) (fun _ hk => hk.2) (.int .i64 t174)) (fun _ hk => hk.2) (.slice Ao9 t175.length co9)) (fun _ hk => hk.1.2))⟩, ⟨skR (Kd.R_mono (Kd.R_far (p := ⟨gb179, 3, none⟩) (Kd.R_far (p := ⟨gb179, 2, none⟩) (Kd.R_far (p := ⟨gb179, 1, none⟩) (Kd.R_far (p := ⟨gb179, 0, none⟩) (Kd.R_types HO177.out BK179.out (by decide)) (fun _ hk => hk.2) (.bool t172)) (fun _ hk => hk.2) (.int .i64 t173)) (fun _ hk => hk.2) (.int .i64 t174)) (fun _ hk => hk.2) (.slice Ao9 t175.length co9)) (fun _ hk => hk.1.2))⟩, ⟨by refine skk ?_; refine blk_put (cs := #[.bool t172, .int .i64 t173, .int .i64 t174, .slice none 0 0]) ?_ 3 _ rfl; refine skk ?_; refine blk_put (cs := #[.bool t172, .int .i64 t173, .int .i64 0, .slice none 0 0]) ?_ 2 _ rfl; refine skk ?_; refine blk_put (cs := #[.bool t172, .int .i64 0, .int .i64 0, .slice none 0 0]) ?_ 1 _ rfl; refine skk ?_; refine blk_put (cs := #[.bool false, .int .i64 0, .int .i64 0, .slice none 0 0]) ?_ 0 _ rfl; refine skk ?_; exact BK179.out⟩, ⟨skG HB.out GE179.out GE179.out⟩⟩
 case rest =>
  clear HC2
  try clear c1
  try clear c2
  try clear p2
  try clear c7
  try clear c9
  try clear c10
  try clear c10b0
  try clear c10b1
  try clear c11
  try clear hcz12_0
  try clear hcz12_1
  try clear hcz12_2
  try clear hcz12_3
  try clear hcz14_0
  try clear hcz14_1
  try clear hcz14_2
  try clear hcz14_3
  try clear hcz8_0
  try clear hcz8_1
  try clear hcz8_2
  try clear hcz8_3
  try clear hfz12_0
  try clear hfz12_1
  try clear hfz12_2
  try clear hfz12_3
  try clear hfz14_0
  try clear hfz14_1
  try clear hfz14_2
  try clear hfz14_3
  try clear hfz8_0
  try clear hfz8_1
  try clear hfz8_2
  try clear hfz8_3
  obtain ⟨kq, x32_1, rfl, HA, HJ1, HO_1, HO_180003, BK179, HB⟩ := hcut
  cases kq with
  | zero => exact absurd HA.out (by simp [larchlaw06_fixed.j0])
  | succ kj1 =>
   have H := HA.out
   clear HA
   simp only [larchlaw06_fixed.j0] at H
   by_cases c19 : x32_1 = true
   ·
    subst c19
    have H1 : (none) = some r := by rw [if_pos rfl] at H; exact H
    clear H
    have H := H1
    clear H1
    exact absurd H (by simp)
   ·
    replace c19 := Bool.eq_false_iff.mpr c19
    subst c19
    have H1 : ((model_Do.f y166 5 2 0 0).bind fun bt184 => (if bt184.2.2.2.2.2 = 0 then (if bt184.2.1 = true then (if bt184.2.2.1 = 5 then (if bt184.2.2.2.1 = 50 then ((model_Check.f kj1 (([(⟨1, 0⟩ : S51), (⟨1, 0⟩ : S51)] : List (S51)))).bind fun t198 => (some (t198 == 11))) else (none)) else (none)) else (none)) else (none))) = some r := by rw [if_neg (show ¬ (false = true) by decide)] at H; exact H
    clear H
    have H := H1
    clear H1
    replace H := Option.bind_eq_some_iff.mp H
    obtain ⟨⟨t184, t187, t188, t189, t190, t193⟩, A200, H⟩ := H
    replace H : (if t193 = 0 then (if t187 = true then (if t188 = 5 then (if t189 = 50 then ((model_Check.f kj1 (([(⟨1, 0⟩ : S51), (⟨1, 0⟩ : S51)] : List (S51)))).bind fun t198 => (some (t198 == 11))) else (none)) else (none)) else (none)) else (none)) = some r := H
    have A20 := asd A200
    clear A200
    by_cases c21 : t193 = 0
    ·
     rw [if_pos c21] at H
     have c21b0 : (t193 == 0) = true := beq_iff_eq.mpr c21
     have c21b1 : (t193 != 0) = false := bne_eq_false_iff_eq.mpr c21
     clear c21
     by_cases c22 : t187 = true
     ·
      subst c22
      have H1 : (if t188 = 5 then (if t189 = 50 then ((model_Check.f kj1 (([(⟨1, 0⟩ : S51), (⟨1, 0⟩ : S51)] : List (S51)))).bind fun t198 => (some (t198 == 11))) else (none)) else (none)) = some r := by rw [if_pos rfl] at H; exact H
      clear H
      have H := H1
      clear H1
      by_cases c23 : t188 = 5
      ·
       rw [if_pos c23] at H
       have c23b0 : (t188 == 5) = true := beq_iff_eq.mpr c23
       have c23b1 : (t188 != 5) = false := bne_eq_false_iff_eq.mpr c23
       clear c23
       by_cases c24 : t189 = 50
       ·
        rw [if_pos c24] at H
        have c24b0 : (t189 == 50) = true := beq_iff_eq.mpr c24
        have c24b1 : (t189 != 50) = false := bne_eq_false_iff_eq.mpr c24
        clear c24
        obtain ⟨y195, hy195⟩ : ∃ y_ : List (S51), y_ = (([(⟨1, 0⟩ : S51), (⟨1, 0⟩ : S51)] : List (S51))) := ⟨_, rfl⟩
        replace H : ((model_Check.f kj1 y195).bind fun t198 => (some (t198 == 11))) = some r := by first | (rw [hy195]; with_reducible exact H) | (have H2_ := (Option.bind_some _ _).symm.trans H; rw [hy195]; with_reducible exact H2_) | (have H2_ := (Option.bind_some _ _).symm.trans H; with_reducible exact H2_) | with_reducible exact H | (rw [hy195]; exact H) | exact H
        have Ny195 := asd hy195
        clear hy195
        replace H := Option.bind_eq_some_iff.mp H
        obtain ⟨t198, A250, H⟩ := H
        replace H : (some (t198 == 11)) = some r := H
        have A25 := asd A250
        clear A250
        obtain rfl := Option.some.inj H
        go_wp2_with (first | ((with_reducible refine gate_callee (f := 9) rfl ?_); refine goesL_ (some 36) rfl rfl Try.func9 (by kernel_rfl) rfl #[.slice Ao5 y166.length co5, .agg #[.int .i64 5, .int .i64 2, .int .i64 0, .int .i64 0]] rfl ags ?_; (with_reducible refine (model_Do.calls _ _ y166 5 2 0 0 t184 true t188 t189 t190 t193 _ ?side1 ?side2 A20.out).mono ?_); (case side1 => exact skC (Kd.R_reads' HO_1.out).2.2); (case side2 => exact (Kd.R_reads' HO_1.out).2.1); rintro e w26 ⟨v185, v191, rfl, ho0, ho1, hb⟩; refine ⟨_, rfl, ?_⟩; have n0_ := asd (Kd.R_mono (Kd.R_told (Kd.R_told (Kd.R_old (skR HO_1.out) hb) (Kd.R_base ho0)) (Kd.R_base ho1)) (fun _ h_ => h_.1)); have n1_ := asd (Kd.R_mono (Kd.R_told (Kd.R_told (Kd.R_old (skR HO_180003.out) hb) (Kd.R_base ho0)) (Kd.R_base ho1)) (fun _ h_ => h_.1)); have n2_ := asd (Kd.R_lower (Kd.R_new' (Kd.R_new' ho0 (Kd.R_lt (skR HO_1.out))) (Kd.R_lt (skR HO_180003.out))) (below_size (skG HB.out GE179.out GE179.out))); have n3_ := asd (Kd.R_lower (Kd.R_new' (Kd.R_new' ho1 (Kd.R_lt (skR HO_1.out))) (Kd.R_lt (skR HO_180003.out))) (below_size (skG HB.out GE179.out GE179.out))); have n4_ := asd (blk_below (g := gb179) (o := .cells #[.bool t172, .int .i64 t173, .int .i64 t174, .slice Ao9 t175.length co9] 27 (0, 0)) (skK BK179.out) hb); have n5_ := asd (below_step (skG HB.out GE179.out GE179.out) hb); clear HO_1; clear HO_180003; clear BK179; clear HB; have HO_1 := n0_; have HO_180003 := n1_; have HO186 := n2_; have HO192 := n3_; have BK179 := n4_; have HB := n5_; clear n0_ n1_ n2_ n3_ n4_ n5_; (try clear hb); (try clear hb2); (try clear hk); (try clear hi); (try clear ho0); (try clear ho1)) | ((with_reducible refine gate_dst (N := 6) rfl ?_); (try (refine gate_guard (by rfl) ?_; dsimp only)); refine box_event ?hg (N := 6) ?hd (cs := #[.bool false, .int .i64 0, .int .i64 0, .slice none 0 0]) (t := 27) ?hr ?_; (case hd => rfl); (case hg => rfl); (case hr => first | (go_simp; done) | (go_simp; rfl)); intro gb194 hg w27 hbox hb; have n0_ := asd (Kd.R_below (skR HO_1.out) hb); have n1_ := asd (Kd.R_below (skR HO_180003.out) hb); have n2_ := asd (Kd.R_below (skR HO186.out) hb); have n3_ := asd (Kd.R_below (skR HO192.out) hb); have n4_ := asd (blk_below (g := gb179) (o := .cells #[.bool t172, .int .i64 t173, .int .i64 t174, .slice Ao9 t175.length co9] 27 (0, 0)) (skK BK179.out) hb); have n5_ := asd (below_step (skG HB.out GE179.out GE179.out) hb); have n6_ := asd (hbox); have n7_ := asd ((by rw [hg]; exact (below_size (skG HB.out GE179.out GE179.out)) : w.heap.size ≤ gb194)); have n8_ := asd ((by rw [hg]; exact (below_size (skG HB.out GE179.out GE179.out)) : w.heap.size ≤ gb194)); have n9_ := asd ((by rw [hg]; exact Nat.ne_of_lt (blk_lt (g := gb179) (o := .cells #[.bool t172, .int .i64 t173, .int .i64 t174, .slice Ao9 t175.length co9] 27 (0, 0)) (skK BK179.out)) : gb179 ≠ gb194)); have n10_ := asd ((by rw [hg]; exact Nat.ne_of_gt (blk_lt (g := gb179) (o := .cells #[.bool t172, .int .i64 t173, .int .i64 t174, .slice Ao9 t175.length co9] 27 (0, 0)) (skK BK179.out)) : gb194 ≠ gb179)); clear HO_1; clear HO_180003; clear HO186; clear HO192; clear BK179; clear HB; have HO_1 := n0_; have HO_180003 := n1_; have HO186 := n2_; have HO192 := n3_; have BK179 := n4_; have HB := n5_; have BK194 := n6_; have GW194 := n7_; have GE194 := n8_; have NB179_194 := n9_; have NB194_179 := n10_; clear n0_ n1_ n2_ n3_ n4_ n5_ n6_ n7_ n8_ n9_ n10_; clear hb hbox hg; have hnb28 := NB194_179.out; have hnc28 := NB179_194.out; obtain ⟨hcz29_0, hcz29_1, hcz29_2, hcz29_3, hfz29_0, hfz29_1, hfz29_2, hfz29_3⟩ := bk4 BK194.out; obtain ⟨Ao30, co30, eo30⟩ := Kd.R_slice HO192.out; subst eo30) | ((with_reducible refine gate_dst (N := 59) rfl ?_); (try (refine gate_guard (by rfl) ?_; dsimp only)); refine Kd.R_lit k51 _ 51 ?hg (N := 59) ?hd (xs := ([(⟨1, 0⟩ : S51), (⟨1, 0⟩ : S51)] : List (S51))) (inner := [.int .i64 1, .int .i64 0, .int .i64 1, .int .i64 0]) (ok := fun _ => True) (okp := fun _ => True) ?hr ?hp (fun _ hk => hk) trivial (Below.refl _ _) (Nat.le_refl _) (by simp) ?_; (case hd => rfl); (case hg => rfl); (case hr => first | (go_simp; done) | (go_simp; rfl)); (case hp => exact (Reps.c2 (show Kd.M k51 _ _ _ (⟨1, 0⟩ : S51) [.int .i64 1, .int .i64 0] from (k51_mkM _ _ _ (⟨1, 0⟩ : S51) )) (Reps.c2 (show Kd.M k51 _ _ _ (⟨1, 0⟩ : S51) [.int .i64 1, .int .i64 0] from (k51_mkM _ _ _ (⟨1, 0⟩ : S51) )) (Reps.none _ _)))); intro v196 w31 ho32 hb hg_ hnew_; clear hg_ hnew_; (first | rw [← Ny195.out] at ho32 | (simp only [Int.reduceToNat] at ho32; rw [← Ny195.out] at ho32)); have n0_ := asd (Kd.R_elder' (skR (Kd.R_mono (Kd.R_far (p := ⟨gb194, 3, none⟩) (Kd.R_far (p := ⟨gb194, 2, none⟩) (Kd.R_far (p := ⟨gb194, 1, none⟩) (Kd.R_far (p := ⟨gb194, 0, none⟩) (Kd.R_types HO_1.out BK194.out (by decide)) (fun _ hk => hk.2) (.bool true)) (fun _ hk => hk.2) (.int .i64 t188)) (fun _ hk => hk.2) (.int .i64 t189)) (fun _ hk => hk.2) (.slice Ao30 t190.length co30)) (fun _ h_ => h_.1))) (Kd.R_base ho32) hb); have n1_ := asd (Kd.R_elder' (skR (Kd.R_mono (Kd.R_far (p := ⟨gb194, 3, none⟩) (Kd.R_far (p := ⟨gb194, 2, none⟩) (Kd.R_far (p := ⟨gb194, 1, none⟩) (Kd.R_far (p := ⟨gb194, 0, none⟩) (Kd.R_types HO_180003.out BK194.out (by decide)) (fun _ hk => hk.2) (.bool true)) (fun _ hk => hk.2) (.int .i64 t188)) (fun _ hk => hk.2) (.int .i64 t189)) (fun _ hk => hk.2) (.slice Ao30 t190.length co30)) (fun _ h_ => h_.1))) (Kd.R_base ho32) hb); have n2_ := asd (Kd.R_elder' (skR (Kd.R_mono (Kd.R_far (p := ⟨gb194, 3, none⟩) (Kd.R_far (p := ⟨gb194, 2, none⟩) (Kd.R_far (p := ⟨gb194, 1, none⟩) (Kd.R_far (p := ⟨gb194, 0, none⟩) (Kd.R_types HO186.out BK194.out (by decide)) (fun _ hk => hk.2) (.bool true)) (fun _ hk => hk.2) (.int .i64 t188)) (fun _ hk => hk.2) (.int .i64 t189)) (fun _ hk => hk.2) (.slice Ao30 t190.length co30)) (fun _ h_ => h_.1))) (Kd.R_base ho32) hb); have n3_ := asd (Kd.R_elder' (skR (Kd.R_mono (Kd.R_far (p := ⟨gb194, 3, none⟩) (Kd.R_far (p := ⟨gb194, 2, none⟩) (Kd.R_far (p := ⟨gb194, 1, none⟩) (Kd.R_far (p := ⟨gb194, 0, none⟩) (Kd.R_types HO192.out BK194.out (by decide)) (fun _ hk => hk.2) (.bool true)) (fun _ hk => hk.2) (.int .i64 t188)) (fun _ hk => hk.2) (.int .i64 t189)) (fun _ hk => hk.2) (.slice Ao30 t190.length co30)) (fun _ h_ => h_.1))) (Kd.R_base ho32) hb); have n4_ := asd (Kd.R_lower (Kd.R_new' (Kd.R_new' (Kd.R_new' (Kd.R_new' ho32 (Kd.R_lt (skR (Kd.R_mono (Kd.R_far (p := ⟨gb194, 3, none⟩) (Kd.R_far (p := ⟨gb194, 2, none⟩) (Kd.R_far (p := ⟨gb194, 1, none⟩) (Kd.R_far (p := ⟨gb194, 0, none⟩) (Kd.R_types HO_1.out BK194.out (by decide)) (fun _ hk => hk.2) (.bool true)) (fun _ hk => hk.2) (.int .i64 t188)) (fun _ hk => hk.2) (.int .i64 t189)) (fun _ hk => hk.2) (.slice Ao30 t190.length co30)) (fun _ h_ => h_.1))))) (Kd.R_lt (skR (Kd.R_mono (Kd.R_far (p := ⟨gb194, 3, none⟩) (Kd.R_far (p := ⟨gb194, 2, none⟩) (Kd.R_far (p := ⟨gb194, 1, none⟩) (Kd.R_far (p := ⟨gb194, 0, none⟩) (Kd.R_types HO_180003.out BK194.out (by decide)) (fun _ hk => hk.2) (.bool true)) (fun _ hk => hk.2) (.int .i64 t188)) (fun _ hk => hk.2) (.int .i64 t189)) (fun _ hk => hk.2) (.slice Ao30 t190.length co30)) (fun _ h_ => h_.1))))) (Kd.R_lt (skR (Kd.R_mono (Kd.R_far (p := ⟨gb194, 3, none⟩) (Kd.R_far (p := ⟨gb194, 2, none⟩) (Kd.R_far (p := ⟨gb194, 1, none⟩) (Kd.R_far (p := ⟨gb194, 0, none⟩) (Kd.R_types HO186.out BK194.out (by decide)) (fun _ hk => hk.2) (.bool true)) (fun _ hk => hk.2) (.int .i64 t188)) (fun _ hk => hk.2) (.int .i64 t189)) (fun _ hk => hk.2) (.slice Ao30 t190.length co30)) (fun _ h_ => h_.1))))) (Kd.R_lt (skR (Kd.R_mono (Kd.R_far (p := ⟨gb194, 3, none⟩) (Kd.R_far (p := ⟨gb194, 2, none⟩) (Kd.R_far (p := ⟨gb194, 1, none⟩) (Kd.R_far (p := ⟨gb194, 0, none⟩) (Kd.R_types HO192.out BK194.out (by decide)) (fun _ hk => hk.2) (.bool true)) (fun _ hk => hk.2) (.int .i64 t188)) (fun _ hk => hk.2) (.int .i64 t189)) (fun _ hk => hk.2) (.slice Ao30 t190.length co30)) (fun _ h_ => h_.1))))) (below_size (skG HB.out GE179.out GE194.out))); have n5_ := asd (blk_below (g := gb179) (o := .cells #[.bool t172, .int .i64 t173, .int .i64 t174, .slice Ao9 t175.length co9] 27 (0, 0)) (by refine skk ?_; refine blk_far ?_ NB179_194.out _; refine skk ?_; refine blk_far ?_ NB179_194.out _; refine skk ?_; refine blk_far ?_ NB179_194.out _; refine skk ?_; refine blk_far ?_ NB179_194.out _; refine skk ?_; exact BK179.out) hb); have n6_ := asd (blk_below (g := gb194) (o := .cells #[.bool true, .int .i64 t188, .int .i64 t189, .slice Ao30 t190.length co30] 27 (0, 0)) (by refine skk ?_; refine blk_put (cs := #[.bool true, .int .i64 t188, .int .i64 t189, .slice none 0 0]) ?_ 3 _ rfl; refine skk ?_; refine blk_put (cs := #[.bool true, .int .i64 t188, .int .i64 0, .slice none 0 0]) ?_ 2 _ rfl; refine skk ?_; refine blk_put (cs := #[.bool true, .int .i64 0, .int .i64 0, .slice none 0 0]) ?_ 1 _ rfl; refine skk ?_; refine blk_put (cs := #[.bool false, .int .i64 0, .int .i64 0, .slice none 0 0]) ?_ 0 _ rfl; refine skk ?_; exact BK194.out) hb); have n7_ := asd (below_step (skG HB.out GE179.out GE194.out) hb); clear HO_1; clear HO_180003; clear HO186; clear HO192; clear BK179; clear BK194; clear HB; have HO_1 := n0_; have HO_180003 := n1_; have HO186 := n2_; have HO192 := n3_; have HO197 := n4_; have BK179 := n5_; have BK194 := n6_; have HB := n7_; clear n0_ n1_ n2_ n3_ n4_ n5_ n6_ n7_; clear hb ho32; obtain ⟨Ao33, co33, eo33⟩ := Kd.R_slice HO197.out; subst eo33) | (go_at_call 21; (with_reducible refine (model_Check.calls kj1 _ _ y195 t198 _ ?side1 ?side2 A25.out).mono ?_); (case side1 => exact skC (Kd.R_reads' HO197.out).2.2); (case side2 => exact (Kd.R_reads' HO197.out).2.1); rintro e w' ⟨rfl, ⟨nd, rfl⟩⟩))
        go_ret
        exact ⟨re, skG HB.out GE179.out GE194.out⟩
       ·
        rw [if_neg c24] at H
        exact absurd H (by simp)
      ·
       rw [if_neg c23] at H
       exact absurd H (by simp)
     ·
      replace c22 := Bool.eq_false_iff.mpr c22
      subst c22
      have H1 : (none) = some r := by rw [if_neg (show ¬ (false = true) by decide)] at H; exact H
      clear H
      have H := H1
      clear H1
      exact absurd H (by simp)
    ·
     rw [if_neg c21] at H
     exact absurd H (by simp)
end Go.Proofs.Ytanlnfcjdjamaaa.P
