/- P.eventApart_holds, part 4 of 41: the contracts of the Go functions that the law calls, its own walk, and its plain law, for every input that the statement speaks of. -/
import Derived.Test.YtagdkmcgepidoaaMAp2
import Derived.Test.YtagdkmcgepidoaaMAp1
set_option linter.unusedVariables false
set_option linter.unusedSimpArgs false
/- F20 -/
namespace Go.Proofs.Ytagdkmcgepidoaa.P
open Go.RowKit Go.Proofs.YtagdkmcgepidoaaW.PrintWords Go.Proofs.YtagdkmcgepidoaaW.PrintLast Go.Proofs.YtagdkmcgepidoaaW.PrintMore
attribute [local go_sem] max2_int min2_int max_two min_two max_three min_three max_four min_four   -- for this text's walks alone
set_option linter.unusedVariables false
set_option linter.unusedSimpArgs false
attribute [local go_sem high] eqA33
mutual
def larchref05_Check.l0 : Nat → List (S67) → List Bool → List (S33) → Int → Option (Int)
 | 0, _, _, _, _ => none
 | k + 1, x0, x3, x4, x5 => if x5 < (x0.length : Int) then (if 0 ≤ x5 then (if ((J67 x0 x5).f0) < 0 then (larchref05_Check.j1 k x0 x3 x4 x5 true ((J67 x0 x5).f0) ((J67 x0 x5).f1) ((J67 x0 x5).f2.f0) ((J67 x0 x5).f2.f1) ((J67 x0 x5).f2.f2) ((J67 x0 x5).f2.f3) ((J67 x0 x5).f3.f0) ((J67 x0 x5).f3.f1) ((J67 x0 x5).f3.f2) ((J67 x0 x5).f3.f3)) else (if ((J67 x0 x5).f0) ≥ 64 then (larchref05_Check.j1 k x0 x3 x4 x5 true ((J67 x0 x5).f0) ((J67 x0 x5).f1) ((J67 x0 x5).f2.f0) ((J67 x0 x5).f2.f1) ((J67 x0 x5).f2.f2) ((J67 x0 x5).f2.f3) ((J67 x0 x5).f3.f0) ((J67 x0 x5).f3.f1) ((J67 x0 x5).f3.f2) ((J67 x0 x5).f3.f3)) else (if ((J67 x0 x5).f2.f0) < 1 then (larchref05_Check.j1 k x0 x3 x4 x5 true ((J67 x0 x5).f0) ((J67 x0 x5).f1) ((J67 x0 x5).f2.f0) ((J67 x0 x5).f2.f1) ((J67 x0 x5).f2.f2) ((J67 x0 x5).f2.f3) ((J67 x0 x5).f3.f0) ((J67 x0 x5).f3.f1) ((J67 x0 x5).f3.f2) ((J67 x0 x5).f3.f3)) else (if ((J67 x0 x5).f2.f0) > 9 then (larchref05_Check.j1 k x0 x3 x4 x5 true ((J67 x0 x5).f0) ((J67 x0 x5).f1) ((J67 x0 x5).f2.f0) ((J67 x0 x5).f2.f1) ((J67 x0 x5).f2.f2) ((J67 x0 x5).f2.f3) ((J67 x0 x5).f3.f0) ((J67 x0 x5).f3.f1) ((J67 x0 x5).f3.f2) ((J67 x0 x5).f3.f3)) else (if 0 ≤ ((J67 x0 x5).f0) then (if ((J67 x0 x5).f0) < (x3.length : Int) then (larchref05_Check.j1 k x0 x3 x4 x5 (((J67 x0 x5).f1) != (rdOf false x3 ((J67 x0 x5).f0))) ((J67 x0 x5).f0) ((J67 x0 x5).f1) ((J67 x0 x5).f2.f0) ((J67 x0 x5).f2.f1) ((J67 x0 x5).f2.f2) ((J67 x0 x5).f2.f3) ((J67 x0 x5).f3.f0) ((J67 x0 x5).f3.f1) ((J67 x0 x5).f3.f2) ((J67 x0 x5).f3.f3)) else (none)) else (none)))))) else (none)) else (some 0)
def larchref05_Check.j1 : Nat → List (S67) → List Bool → List (S33) → Int → Bool → Int → Bool → Int → Int → Int → Int → Bool → Int → Int → List (S70) → Option (Int)
 | 0, _, _, _, _, _, _, _, _, _, _, _, _, _, _, _ => none
 | k + 1, x0, x3, x4, x5, x51, x153000, x153001, x153002, x153003, x153004, x153005, x153006, x153007, x153008, x153009 => if x51 = true then (some 3) else (if x153001 = true then (if 0 ≤ x153000 then (if x153000 < (x4.length : Int) then (if (!(x153002 == ((J33 x4 x153000).f0)) || (!(x153003 == ((J33 x4 x153000).f1)) || (!(x153004 == ((J33 x4 x153000).f2)) || (!(x153005 == ((J33 x4 x153000).f3)))))) = true then (some 3) else (if x153000 < (x3.length : Int) then (larchref05_Check.l0 k x0 (x3.set (x153000 : Int).toNat (!x153001)) (x4.set (x153000 : Int).toNat (⟨x153002, x153003, x153004, x153005⟩ : S33)) (wrap64 (x5 + 1))) else (none))) else (none)) else (none)) else ((larchref05_SameRet.f k x153006 x153007 x153008 x153009 false 0 0 ([] : List (S70))).bind fun t157 => (if t157 = true then (if 0 ≤ x153000 then (if x153000 < (x3.length : Int) then (if x153000 < (x4.length : Int) then (larchref05_Check.l0 k x0 (x3.set (x153000 : Int).toNat (!x153001)) (x4.set (x153000 : Int).toNat (⟨x153002, x153003, x153004, x153005⟩ : S33)) (wrap64 (x5 + 1))) else (none)) else (none)) else (none)) else (some 3))))
end
def larchref05_Check.f (k : Nat) (l0 : List (S67)) : Option (Int) := if (l0.length : Int) > 100000 then (some 2) else (if 64 ≤ 281474976710656 then (if 64 ≤ 8796093022208 then (larchref05_Check.l0 k l0 (List.replicate 64 false) (List.replicate 64 z33) 0) else (none)) else (none))
def larchref05_Check.T9 : Bool × List (List Nat × List Nat) := (true, [([], []), ([0], [0]), ([1], [1]), ([2], [2]), ([3], [3]), ([4, 3], [3, 4]), ([5, 3], [3, 5]), ([3, 6], [3, 6]), ([7, 3], [7]), ([8], [8]), ([9, 8], [8, 9]), ([10, 8], [8, 10]), ([11, 8], [8, 11]), ([8, 12], [8, 12]), ([13, 8], [13]), ([14], [14]), ([15, 14], [14, 15]), ([16, 14], [14, 16]), ([17, 14], [14, 17]), ([14, 18], [14, 18]), ([19, 14], [19]), ([20], [20]), ([21, 20], [20, 21]), ([20], [20]), ([20], [20]), ([24, 20], [20, 24]), ([23, 25, 20], [20, 23, 25]), ([26, 20], [20, 26]), ([22, 27, 20], [20, 22, 27]), ([20, 28], [20, 28])])
def larchref05_Check.B9 : List Nat := [0, 1, 3, 7, 15, 31, 63, 127, 255, 511, 1023, 2047, 4095, 8191, 16383, 32767, 65535, 131071, 262143, 524287, 1048575, 2097151, 4194303, 2097151, 2097151, 18874367, 60817407, 127926271, 268435455, 536870911]
theorem larchref05_Check.tab9 : rtab .any (opsOf Try.f37 9) = larchref05_Check.T9 := by kernel_rfl
theorem larchref05_Check.bits9 : waitsOk larchref05_Check.T9.2 larchref05_Check.B9 = true := by kernel_rfl
def larchref05_Check.T11 : Bool × List (List Nat × List Nat) := (true, [([], []), ([0], [0]), ([1], [1]), ([2], [2]), ([3, 2], [2, 3]), ([2], [2]), ([2], [2]), ([6, 2], [2, 6]), ([5, 7, 2], [2, 5, 7]), ([8, 2], [2, 8]), ([4, 9, 2], [2, 4, 9]), ([2, 10], [2, 10]), ([11, 2], [11]), ([12], [12]), ([13, 12], [12, 13]), ([14, 12], [12, 14]), ([15, 12, 12], [12, 15]), ([16], [16]), ([17, 16], [16, 17]), ([16], [16]), ([18, 19, 16, 16], [16, 18, 19]), ([20, 16], [16, 20]), ([16, 21, 12], [12, 16, 21]), ([12, 22], [12, 22])])
def larchref05_Check.B11 : List Nat := [0, 1, 3, 7, 15, 7, 7, 71, 231, 487, 1023, 2047, 4095, 8191, 16383, 32767, 65535, 131071, 262143, 131071, 1048575, 2097151, 4194303, 8388607]
theorem larchref05_Check.tab11 : rtab .any (opsOf Try.f37 11) = larchref05_Check.T11 := by kernel_rfl
theorem larchref05_Check.bits11 : waitsOk larchref05_Check.T11.2 larchref05_Check.B11 = true := by kernel_rfl
set_option maxHeartbeats 8000000 in
set_option maxRecDepth 100000 in
theorem larchref05_Check.calls (k : Nat) (A0 : Option Addr) (c0 : Nat) (l0 : List (S67)) (r : Int) (w : World) (hr0 : Kd.C k67 w A0 l0.length l0) (hc0 : l0.length ≤ c0) (h : larchref05_Check.f k l0 = some r) :
  Calls Try.prog 37 #[.slice A0 l0.length c0] w fun e w' => e = .returned (.int .i64 r) ∧ Below w.heap.size w w' := by
 have hu67 := Try.underlying67
 have hu33 := Try.underlying33
 have hu36 := Try.underlying36
 have HR0 := asd hr0
 have HC0 := asd hc0
 clear hr0 hc0
 have HB := asd (Below.refl w.heap.size w)
 have H : (if (l0.length : Int) > 100000 then (some 2) else (if 64 ≤ 281474976710656 then (if 64 ≤ 8796093022208 then (larchref05_Check.l0 k l0 (List.replicate 64 false) (List.replicate 64 z33) 0) else (none)) else (none))) = some r := h
 clear h
 by_cases c2 : (l0.length : Int) > 100000
 ·
  rw [if_pos c2] at H
  have c2b0 : decide (100000 < (l0.length : Int)) = true := decide_eq_true c2
  have c2b1 : decide (100000 < l0.length) = true := decide_eq_true (by omega)
  clear c2
  obtain rfl := Option.some.inj H
  go_enter Try.func37, Try.ntmps37
  go_wp2
  go_ret
  exact ⟨re, skB HB.out⟩
 ·
  rw [if_neg c2] at H
  have c2b0 : decide (100000 < (l0.length : Int)) = false := decide_eq_false c2
  have c2b1 : decide (100000 < l0.length) = false := decide_eq_false (by omega)
  clear c2
  by_cases c3 : 64 ≤ 281474976710656
  ·
   rw [if_pos c3] at H
   have c3b0 := eq_true c3
   have c3b1 : decide (64 ≤ 281474976710656) = true := decide_eq_true c3
   clear c3
   obtain ⟨y145, hy145⟩ : ∃ y_ : List Bool, y_ = (List.replicate 64 false) := ⟨_, rfl⟩
   replace H : (if 64 ≤ 8796093022208 then (larchref05_Check.l0 k l0 y145 (List.replicate 64 z33) 0) else (none)) = some r := by first | (rw [hy145]; with_reducible exact H) | (have H2_ := (Option.bind_some _ _).symm.trans H; rw [hy145]; with_reducible exact H2_) | (have H2_ := (Option.bind_some _ _).symm.trans H; with_reducible exact H2_) | with_reducible exact H | (rw [hy145]; exact H) | exact H
   have Ny145 := asd hy145
   clear hy145
   by_cases c4 : 64 ≤ 8796093022208
   ·
    rw [if_pos c4] at H
    have c4b0 := eq_true c4
    have c4b1 : decide (64 ≤ 8796093022208) = true := decide_eq_true c4
    clear c4
    obtain ⟨y148, hy148⟩ : ∃ y_ : List (S33), y_ = (List.replicate 64 z33) := ⟨_, rfl⟩
    replace H : (larchref05_Check.l0 k l0 y145 y148 0) = some r := by first | (rw [hy148]; with_reducible exact H) | (have H2_ := (Option.bind_some _ _).symm.trans H; rw [hy148]; with_reducible exact H2_) | (have H2_ := (Option.bind_some _ _).symm.trans H; with_reducible exact H2_) | with_reducible exact H | (rw [hy148]; exact H) | exact H
    have Ny148 := asd hy148
    clear hy148
    have H' := asd H
    clear H
    go_enter Try.func37, Try.ntmps37
    go_wp2_with (first | ((with_reducible refine gate_dst (N := 10) rfl ?_); refine Kd.R_make Kd.bool _ 4 rfl (N := 10) rfl 31 _ _ rfl 64 rfl rfl Try.underlying31 (.bool false) 1 info4 rfl (by decide) (by omega) false (ok := fun _ => True) (okp := fun _ => True) rfl (fun _ hk => hk) trivial (by omega) (by omega) (Below.refl _ _) (Nat.le_refl _) ?_; intro v146 w5 ho6 hb hg_ hnew_; clear hg_ hnew_; (first | rw [← Ny145.out] at ho6 | (simp only [Int.reduceToNat] at ho6; rw [← Ny145.out] at ho6)); have n0_ := asd (Kd.R_lower ho6 (below_size (skB HB.out))); have n1_ := asd (below_step (skB HB.out) hb); clear HB; have HO147 := n0_; have HB := n1_; clear n0_ n1_; clear hb ho6) | ((with_reducible refine gate_dst (N := 11) rfl ?_); refine Kd.R_make k33 _ 33 rfl (N := 11) rfl 90 _ _ rfl 64 rfl rfl Try.underlying90 (.agg #[(.int .i64 0), (.int .i64 0), (.int .i64 0), (.int .i64 0)]) 32 info33 rfl (by decide) (by omega) z33 (ok := fun _ => True) (okp := fun _ => True) (k33_mkM _ _ _ z33 ) (fun _ hk => hk) trivial (by omega) (by omega) (Below.refl _ _) (Nat.le_refl _) ?_; intro v149 w7 ho8 hb hg_ hnew_; clear hg_ hnew_; (first | rw [← Ny148.out] at ho8 | (simp only [Int.reduceToNat] at ho8; rw [← Ny148.out] at ho8)); have n0_ := asd (Kd.R_below (skR HO147.out) hb); have n1_ := asd (Kd.R_lower ho8 (below_size (skB HB.out))); have n2_ := asd (below_step (skB HB.out) hb); clear HO147; clear HB; have HO147 := n0_; have HO150 := n1_; have HB := n2_; clear n0_ n1_ n2_; clear hb ho8))
    go_loopg [5] k (fun kq v5 w' => ∃ (x3_1 : List Bool) (x4_1 : List (S33)) (x5_1 : Int), v5 = .int .i64 x5_1 ∧ Aside0 (larchref05_Check.l0 kq l0 x3_1 x4_1 x5_1 = some r) ∧ Aside0 (kq ≤ k) ∧ Aside0 (Kd.R Kd.bool 4 w' w.heap.size (fun _ => True) v146 x3_1) ∧ Aside0 (Kd.R k33 33 w' w.heap.size (fun _ => True) v149 x4_1) ∧ Aside0 (Below w.heap.size w w'))
    case atStart => exact ⟨(y145), (y148), (0), rs, H', ⟨Nat.le_refl _⟩, ⟨skR HO147.out⟩, ⟨skR HO150.out⟩, ⟨skB HB.out⟩⟩
    case round =>
     clear H'
     try clear c2
     try clear c2b0
     try clear c2b1
     try clear p2
     try clear c3
     try clear c3b0
     try clear c3b1
     try clear c4
     try clear c4b0
     try clear c4b1
     obtain ⟨x3_1, x4_1, x5_1, rfl, HA, HK1, HO_3, HO_4, HB⟩ := hrel
     cases gk with
     | zero => exact absurd HA.out (by simp [larchref05_Check.l0])
     | succ k1 =>
      have H := HA.out
      clear HA
      simp only [larchref05_Check.l0] at H
      by_cases c9 : x5_1 < (l0.length : Int)
      ·
       rw [if_pos c9] at H
       have c9b0 : decide (x5_1 < (l0.length : Int)) = true := decide_eq_true c9
       clear c9
       by_cases c10 : 0 ≤ x5_1
       ·
        rw [if_pos c10] at H
        have c10b0 : decide (0 ≤ x5_1) = true := decide_eq_true c10
        clear c10
        have HC11 := asd H
        clear H
        have p151 : 0 ≤ (x5_1 : Int) := dt
        have q151 : x5_1 < (l0.length : Int) := dt
        obtain ⟨ad151, A151_9, c151_9, e151, hx151_0, hx151_1, hx151_2, hx151_3, hx151_4, hx151_5, hx151_6, hx151_7, hx151_8, hx151_9, hl151_9, hi151_9⟩ := at_T67 HR0.out x5_1 p151 q151
        cases e151
        replace hx151_0 := skc HB.out hx151_0
        replace hx151_1 := skc HB.out hx151_1
        replace hx151_2 := skc HB.out hx151_2
        replace hx151_3 := skc HB.out hx151_3
        replace hx151_4 := skc HB.out hx151_4
        replace hx151_5 := skc HB.out hx151_5
        replace hx151_6 := skc HB.out hx151_6
        replace hx151_7 := skc HB.out hx151_7
        replace hx151_8 := skc HB.out hx151_8
        replace hx151_9 := skc HB.out hx151_9
        have HR151_9 := asd hi151_9
        have HC151_9 := asd hl151_9
        clear hi151_9 hl151_9
        replace p151 := eq_true p151
        replace q151 := eq_true q151
        go_upto_region 9 with (first | ((with_reducible refine gate_dst (N := 6) rfl ?_); refine box_event ?hg (N := 6) ?hd (cs := #[.int .i64 0, .bool false, .int .i64 0, .int .i64 0, .int .i64 0, .int .i64 0, .bool false, .int .i64 0, .int .i64 0, .slice none 0 0]) (t := 67) ?hr ?_; (case hd => rfl); (case hg => rfl); (case hr => first | (go_simp; done) | (go_simp; rfl)); intro gb152 hg w12 hbox hb; have n0_ := asd (Kd.R_below (skR HO_3.out) hb); have n1_ := asd (Kd.R_below (skR HO_4.out) hb); have n2_ := asd (below_step (skB HB.out) hb); have n3_ := asd (hbox); have n4_ := asd ((by rw [hg]; exact (below_size (skB HB.out)) : w.heap.size ≤ gb152)); have n5_ := asd ((by rw [hg]; exact (below_size (skB HB.out)) : w.heap.size ≤ gb152)); clear HO_3; clear HO_4; clear HB; have HO_3 := n0_; have HO_4 := n1_; have HB := n2_; have BK152 := n3_; have GW152 := n4_; have GE152 := n5_; clear n0_ n1_ n2_ n3_ n4_ n5_; clear hb hbox hg; have hcz13_0 : w12.cell? ⟨gb152, 0, none⟩ = some (.int .i64 0) := (blk_cell BK152.out 0).trans rfl; have hcz13_1 : w12.cell? ⟨gb152, 1, none⟩ = some (.bool false) := (blk_cell BK152.out 1).trans rfl; have hcz13_2 : w12.cell? ⟨gb152, 2, none⟩ = some (.int .i64 0) := (blk_cell BK152.out 2).trans rfl; have hcz13_3 : w12.cell? ⟨gb152, 3, none⟩ = some (.int .i64 0) := (blk_cell BK152.out 3).trans rfl; have hcz13_4 : w12.cell? ⟨gb152, 4, none⟩ = some (.int .i64 0) := (blk_cell BK152.out 4).trans rfl; have hcz13_5 : w12.cell? ⟨gb152, 5, none⟩ = some (.int .i64 0) := (blk_cell BK152.out 5).trans rfl; have hcz13_6 : w12.cell? ⟨gb152, 6, none⟩ = some (.bool false) := (blk_cell BK152.out 6).trans rfl; have hcz13_7 : w12.cell? ⟨gb152, 7, none⟩ = some (.int .i64 0) := (blk_cell BK152.out 7).trans rfl; have hcz13_8 : w12.cell? ⟨gb152, 8, none⟩ = some (.int .i64 0) := (blk_cell BK152.out 8).trans rfl; have hcz13_9 : w12.cell? ⟨gb152, 9, none⟩ = some (.slice none 0 0) := (blk_cell BK152.out 9).trans rfl; have hfz13_0 := blk_frozen BK152.out 0; have hfz13_1 := blk_frozen BK152.out 1; have hfz13_2 := blk_frozen BK152.out 2; have hfz13_3 := blk_frozen BK152.out 3; have hfz13_4 := blk_frozen BK152.out 4; have hfz13_5 := blk_frozen BK152.out 5; have hfz13_6 := blk_frozen BK152.out 6; have hfz13_7 := blk_frozen BK152.out 7; have hfz13_8 := blk_frozen BK152.out 8; have hfz13_9 := blk_frozen BK152.out 9))
        (try simp only [Act.put, List.setIfInBounds_toArray, List.set_cons_zero, List.set_cons_succ])
        go_cut [51] (fun v51 wc => ∃ (kq : Nat) (x51_10 : Bool), v51 = .bool x51_10 ∧ Aside0 (larchref05_Check.j1 kq l0 x3_1 x4_1 x5_1 x51_10 ((J67 l0 x5_1).f0) ((J67 l0 x5_1).f1) ((J67 l0 x5_1).f2.f0) ((J67 l0 x5_1).f2.f1) ((J67 l0 x5_1).f2.f2) ((J67 l0 x5_1).f2.f3) ((J67 l0 x5_1).f3.f0) ((J67 l0 x5_1).f3.f1) ((J67 l0 x5_1).f3.f2) ((J67 l0 x5_1).f3.f3) = some r) ∧ Aside0 (kq ≤ k1) ∧ Aside0 (Kd.R Kd.bool 4 wc w.heap.size (fun _ => True) v146 x3_1) ∧ Aside0 (Kd.R k33 33 wc w.heap.size (fun _ => True) v149 x4_1) ∧ Aside0 (wc.heap[gb152]? = some (.cells #[.int .i64 ((J67 l0 x5_1).f0), .bool ((J67 l0 x5_1).f1), .int .i64 ((J67 l0 x5_1).f2.f0), .int .i64 ((J67 l0 x5_1).f2.f1), .int .i64 ((J67 l0 x5_1).f2.f2), .int .i64 ((J67 l0 x5_1).f2.f3), .bool ((J67 l0 x5_1).f3.f0), .int .i64 ((J67 l0 x5_1).f3.f1), .int .i64 ((J67 l0 x5_1).f3.f2), (.slice A151_9 ((J67 l0 x5_1).f3.f3).length c151_9)] 67 (0, 0))) ∧ Aside0 (Below w.heap.size w wc))
        case first =>
         have H := HC11.out
         clear HC11
         by_cases c14 : ((J67 l0 x5_1).f0) < 0
         ·
          rw [if_pos c14] at H
          have c14b0 : decide (((J67 l0 x5_1).f0) < 0) = true := decide_eq_true c14
          clear c14
          (first | rw [c14b0] | (simp only [i64_w, i32_w]; rw [c14b0]) | skip)
          have H' := asd H
          clear H
          try go_wp2
          have n0_ : Aside0 (Kd.R Kd.bool 4 ((((((((((w12.setCell ⟨gb152, 0, none⟩ (.int .i64 ((J67 l0 x5_1).f0))).setCell ⟨gb152, 1, none⟩ (.bool ((J67 l0 x5_1).f1))).setCell ⟨gb152, 2, none⟩ (.int .i64 ((J67 l0 x5_1).f2.f0))).setCell ⟨gb152, 3, none⟩ (.int .i64 ((J67 l0 x5_1).f2.f1))).setCell ⟨gb152, 4, none⟩ (.int .i64 ((J67 l0 x5_1).f2.f2))).setCell ⟨gb152, 5, none⟩ (.int .i64 ((J67 l0 x5_1).f2.f3))).setCell ⟨gb152, 6, none⟩ (.bool ((J67 l0 x5_1).f3.f0))).setCell ⟨gb152, 7, none⟩ (.int .i64 ((J67 l0 x5_1).f3.f1))).setCell ⟨gb152, 8, none⟩ (.int .i64 ((J67 l0 x5_1).f3.f2))).setCell ⟨gb152, 9, none⟩ (.slice A151_9 ((J67 l0 x5_1).f3.f3).length c151_9)) w.heap.size (fun _ => True) v146 x3_1) := ⟨skR (Kd.R_mono (Kd.R_far (p := ⟨gb152, 9, none⟩) (Kd.R_far (p := ⟨gb152, 8, none⟩) (Kd.R_far (p := ⟨gb152, 7, none⟩) (Kd.R_far (p := ⟨gb152, 6, none⟩) (Kd.R_far (p := ⟨gb152, 5, none⟩) (Kd.R_far (p := ⟨gb152, 4, none⟩) (Kd.R_far (p := ⟨gb152, 3, none⟩) (Kd.R_far (p := ⟨gb152, 2, none⟩) (Kd.R_far (p := ⟨gb152, 1, none⟩) (Kd.R_far (p := ⟨gb152, 0, none⟩) (Kd.R_types HO_3.out BK152.out (by decide)) (fun _ hk => hk.2) (.int .i64 ((J67 l0 x5_1).f0))) (fun _ hk => hk.2) (.bool ((J67 l0 x5_1).f1))) (fun _ hk => hk.2) (.int .i64 ((J67 l0 x5_1).f2.f0))) (fun _ hk => hk.2) (.int .i64 ((J67 l0 x5_1).f2.f1))) (fun _ hk => hk.2) (.int .i64 ((J67 l0 x5_1).f2.f2))) (fun _ hk => hk.2) (.int .i64 ((J67 l0 x5_1).f2.f3))) (fun _ hk => hk.2) (.bool ((J67 l0 x5_1).f3.f0))) (fun _ hk => hk.2) (.int .i64 ((J67 l0 x5_1).f3.f1))) (fun _ hk => hk.2) (.int .i64 ((J67 l0 x5_1).f3.f2))) (fun _ hk => hk.2) (.slice A151_9 ((J67 l0 x5_1).f3.f3).length c151_9)) (fun _ hk => trivial))⟩
          have n1_ : Aside0 (Kd.R k33 33 ((((((((((w12.setCell ⟨gb152, 0, none⟩ (.int .i64 ((J67 l0 x5_1).f0))).setCell ⟨gb152, 1, none⟩ (.bool ((J67 l0 x5_1).f1))).setCell ⟨gb152, 2, none⟩ (.int .i64 ((J67 l0 x5_1).f2.f0))).setCell ⟨gb152, 3, none⟩ (.int .i64 ((J67 l0 x5_1).f2.f1))).setCell ⟨gb152, 4, none⟩ (.int .i64 ((J67 l0 x5_1).f2.f2))).setCell ⟨gb152, 5, none⟩ (.int .i64 ((J67 l0 x5_1).f2.f3))).setCell ⟨gb152, 6, none⟩ (.bool ((J67 l0 x5_1).f3.f0))).setCell ⟨gb152, 7, none⟩ (.int .i64 ((J67 l0 x5_1).f3.f1))).setCell ⟨gb152, 8, none⟩ (.int .i64 ((J67 l0 x5_1).f3.f2))).setCell ⟨gb152, 9, none⟩ (.slice A151_9 ((J67 l0 x5_1).f3.f3).length c151_9)) w.heap.size (fun _ => True) v149 x4_1) := ⟨skR (Kd.R_mono (Kd.R_far (p := ⟨gb152, 9, none⟩) (Kd.R_far (p := ⟨gb152, 8, none⟩) (Kd.R_far (p := ⟨gb152, 7, none⟩) (Kd.R_far (p := ⟨gb152, 6, none⟩) (Kd.R_far (p := ⟨gb152, 5, none⟩) (Kd.R_far (p := ⟨gb152, 4, none⟩) (Kd.R_far (p := ⟨gb152, 3, none⟩) (Kd.R_far (p := ⟨gb152, 2, none⟩) (Kd.R_far (p := ⟨gb152, 1, none⟩) (Kd.R_far (p := ⟨gb152, 0, none⟩) (Kd.R_types HO_4.out BK152.out (by decide)) (fun _ hk => hk.2) (.int .i64 ((J67 l0 x5_1).f0))) (fun _ hk => hk.2) (.bool ((J67 l0 x5_1).f1))) (fun _ hk => hk.2) (.int .i64 ((J67 l0 x5_1).f2.f0))) (fun _ hk => hk.2) (.int .i64 ((J67 l0 x5_1).f2.f1))) (fun _ hk => hk.2) (.int .i64 ((J67 l0 x5_1).f2.f2))) (fun _ hk => hk.2) (.int .i64 ((J67 l0 x5_1).f2.f3))) (fun _ hk => hk.2) (.bool ((J67 l0 x5_1).f3.f0))) (fun _ hk => hk.2) (.int .i64 ((J67 l0 x5_1).f3.f1))) (fun _ hk => hk.2) (.int .i64 ((J67 l0 x5_1).f3.f2))) (fun _ hk => hk.2) (.slice A151_9 ((J67 l0 x5_1).f3.f3).length c151_9)) (fun _ hk => trivial))⟩
          have n2_ : Aside0 (((((((((((w12.setCell ⟨gb152, 0, none⟩ (.int .i64 ((J67 l0 x5_1).f0))).setCell ⟨gb152, 1, none⟩ (.bool ((J67 l0 x5_1).f1))).setCell ⟨gb152, 2, none⟩ (.int .i64 ((J67 l0 x5_1).f2.f0))).setCell ⟨gb152, 3, none⟩ (.int .i64 ((J67 l0 x5_1).f2.f1))).setCell ⟨gb152, 4, none⟩ (.int .i64 ((J67 l0 x5_1).f2.f2))).setCell ⟨gb152, 5, none⟩ (.int .i64 ((J67 l0 x5_1).f2.f3))).setCell ⟨gb152, 6, none⟩ (.bool ((J67 l0 x5_1).f3.f0))).setCell ⟨gb152, 7, none⟩ (.int .i64 ((J67 l0 x5_1).f3.f1))).setCell ⟨gb152, 8, none⟩ (.int .i64 ((J67 l0 x5_1).f3.f2))).setCell ⟨gb152, 9, none⟩ (.slice A151_9 ((J67 l0 x5_1).f3.f3).length c151_9)).heap[gb152]? = some (.cells #[.int .i64 ((J67 l0 x5_1).f0), .bool ((J67 l0 x5_1).f1), .int .i64 ((J67 l0 x5_1).f2.f0), .int .i64 ((J67 l0 x5_1).f2.f1), .int .i64 ((J67 l0 x5_1).f2.f2), .int .i64 ((J67 l0 x5_1).f2.f3), .bool ((J67 l0 x5_1).f3.f0), .int .i64 ((J67 l0 x5_1).f3.f1), .int .i64 ((J67 l0 x5_1).f3.f2), .slice A151_9 ((J67 l0 x5_1).f3.f3).length c151_9] 67 (0, 0))) := ⟨by refine skk ?_; refine blk_put (cs := #[.int .i64 ((J67 l0 x5_1).f0), .bool ((J67 l0 x5_1).f1), .int .i64 ((J67 l0 x5_1).f2.f0), .int .i64 ((J67 l0 x5_1).f2.f1), .int .i64 ((J67 l0 x5_1).f2.f2), .int .i64 ((J67 l0 x5_1).f2.f3), .bool ((J67 l0 x5_1).f3.f0), .int .i64 ((J67 l0 x5_1).f3.f1), .int .i64 ((J67 l0 x5_1).f3.f2), .slice none 0 0]) ?_ 9 _ rfl; refine skk ?_; refine blk_put (cs := #[.int .i64 ((J67 l0 x5_1).f0), .bool ((J67 l0 x5_1).f1), .int .i64 ((J67 l0 x5_1).f2.f0), .int .i64 ((J67 l0 x5_1).f2.f1), .int .i64 ((J67 l0 x5_1).f2.f2), .int .i64 ((J67 l0 x5_1).f2.f3), .bool ((J67 l0 x5_1).f3.f0), .int .i64 ((J67 l0 x5_1).f3.f1), .int .i64 0, .slice none 0 0]) ?_ 8 _ rfl; refine skk ?_; refine blk_put (cs := #[.int .i64 ((J67 l0 x5_1).f0), .bool ((J67 l0 x5_1).f1), .int .i64 ((J67 l0 x5_1).f2.f0), .int .i64 ((J67 l0 x5_1).f2.f1), .int .i64 ((J67 l0 x5_1).f2.f2), .int .i64 ((J67 l0 x5_1).f2.f3), .bool ((J67 l0 x5_1).f3.f0), .int .i64 0, .int .i64 0, .slice none 0 0]) ?_ 7 _ rfl; refine skk ?_; refine blk_put (cs := #[.int .i64 ((J67 l0 x5_1).f0), .bool ((J67 l0 x5_1).f1), .int .i64 ((J67 l0 x5_1).f2.f0), .int .i64 ((J67 l0 x5_1).f2.f1), .int .i64 ((J67 l0 x5_1).f2.f2), .int .i64 ((J67 l0 x5_1).f2.f3), .bool false, .int .i64 0, .int .i64 0, .slice none 0 0]) ?_ 6 _ rfl; refine skk ?_; refine blk_put (cs := #[.int .i64 ((J67 l0 x5_1).f0), .bool ((J67 l0 x5_1).f1), .int .i64 ((J67 l0 x5_1).f2.f0), .int .i64 ((J67 l0 x5_1).f2.f1), .int .i64 ((J67 l0 x5_1).f2.f2), .int .i64 0, .bool false, .int .i64 0, .int .i64 0, .slice none 0 0]) ?_ 5 _ rfl; refine skk ?_; refine blk_put (cs := #[.int .i64 ((J67 l0 x5_1).f0), .bool ((J67 l0 x5_1).f1), .int .i64 ((J67 l0 x5_1).f2.f0), .int .i64 ((J67 l0 x5_1).f2.f1), .int .i64 0, .int .i64 0, .bool false, .int .i64 0, .int .i64 0, .slice none 0 0]) ?_ 4 _ rfl; refine skk ?_; refine blk_put (cs := #[.int .i64 ((J67 l0 x5_1).f0), .bool ((J67 l0 x5_1).f1), .int .i64 ((J67 l0 x5_1).f2.f0), .int .i64 0, .int .i64 0, .int .i64 0, .bool false, .int .i64 0, .int .i64 0, .slice none 0 0]) ?_ 3 _ rfl; refine skk ?_; refine blk_put (cs := #[.int .i64 ((J67 l0 x5_1).f0), .bool ((J67 l0 x5_1).f1), .int .i64 0, .int .i64 0, .int .i64 0, .int .i64 0, .bool false, .int .i64 0, .int .i64 0, .slice none 0 0]) ?_ 2 _ rfl; refine skk ?_; refine blk_put (cs := #[.int .i64 ((J67 l0 x5_1).f0), .bool false, .int .i64 0, .int .i64 0, .int .i64 0, .int .i64 0, .bool false, .int .i64 0, .int .i64 0, .slice none 0 0]) ?_ 1 _ rfl; refine skk ?_; refine blk_put (cs := #[.int .i64 0, .bool false, .int .i64 0, .int .i64 0, .int .i64 0, .int .i64 0, .bool false, .int .i64 0, .int .i64 0, .slice none 0 0]) ?_ 0 _ rfl; refine skk ?_; exact BK152.out⟩
          have n3_ : Aside0 (Below w.heap.size w ((((((((((w12.setCell ⟨gb152, 0, none⟩ (.int .i64 ((J67 l0 x5_1).f0))).setCell ⟨gb152, 1, none⟩ (.bool ((J67 l0 x5_1).f1))).setCell ⟨gb152, 2, none⟩ (.int .i64 ((J67 l0 x5_1).f2.f0))).setCell ⟨gb152, 3, none⟩ (.int .i64 ((J67 l0 x5_1).f2.f1))).setCell ⟨gb152, 4, none⟩ (.int .i64 ((J67 l0 x5_1).f2.f2))).setCell ⟨gb152, 5, none⟩ (.int .i64 ((J67 l0 x5_1).f2.f3))).setCell ⟨gb152, 6, none⟩ (.bool ((J67 l0 x5_1).f3.f0))).setCell ⟨gb152, 7, none⟩ (.int .i64 ((J67 l0 x5_1).f3.f1))).setCell ⟨gb152, 8, none⟩ (.int .i64 ((J67 l0 x5_1).f3.f2))).setCell ⟨gb152, 9, none⟩ (.slice A151_9 ((J67 l0 x5_1).f3.f3).length c151_9))) := ⟨skG HB.out GE152.out GE152.out⟩
          (try clear HO_3)
          (try clear HO_4)
          (try clear BK152)
          (try clear HB)
          generalize ((((((((((w12.setCell ⟨gb152, 0, none⟩ (.int .i64 ((J67 l0 x5_1).f0))).setCell ⟨gb152, 1, none⟩ (.bool ((J67 l0 x5_1).f1))).setCell ⟨gb152, 2, none⟩ (.int .i64 ((J67 l0 x5_1).f2.f0))).setCell ⟨gb152, 3, none⟩ (.int .i64 ((J67 l0 x5_1).f2.f1))).setCell ⟨gb152, 4, none⟩ (.int .i64 ((J67 l0 x5_1).f2.f2))).setCell ⟨gb152, 5, none⟩ (.int .i64 ((J67 l0 x5_1).f2.f3))).setCell ⟨gb152, 6, none⟩ (.bool ((J67 l0 x5_1).f3.f0))).setCell ⟨gb152, 7, none⟩ (.int .i64 ((J67 l0 x5_1).f3.f1))).setCell ⟨gb152, 8, none⟩ (.int .i64 ((J67 l0 x5_1).f3.f2))).setCell ⟨gb152, 9, none⟩ (.slice A151_9 ((J67 l0 x5_1).f3.f3).length c151_9)) = w15 at n0_ n1_ n2_ n3_ ⊢
          have HO_3 := n0_
          have HO_4 := n1_
          have BK152 := n2_
          have HB := n3_
          clear n0_ n1_ n2_ n3_
          have n0_ := asd (Kd.R_drew HO_3.out)
          have n1_ := asd (Kd.R_drew HO_4.out)
          have n2_ := asd (blk_drew BK152.out)
          have n3_ := asd (below_drew1 HB.out)
          clear HO_3
          clear HO_4
          clear BK152
          clear HB
          have HO_3 := n0_
          have HO_4 := n1_
          have BK152 := n2_
          have HB := n3_
          clear n0_ n1_ n2_ n3_
          refine start_ (n := 30) (S := fun w' => w'.cell? ⟨gb152, 0, none⟩ = some (.int .i64 ((J67 l0 x5_1).f0)) ∧ w'.cell? ⟨gb152, 1, none⟩ = some (.bool ((J67 l0 x5_1).f1)) ∧ w'.cell? ⟨gb152, 2, none⟩ = some (.int .i64 ((J67 l0 x5_1).f2.f0)) ∧ w'.cell? ⟨gb152, 3, none⟩ = some (.int .i64 ((J67 l0 x5_1).f2.f1)) ∧ w'.cell? ⟨gb152, 4, none⟩ = some (.int .i64 ((J67 l0 x5_1).f2.f2)) ∧ w'.cell? ⟨gb152, 5, none⟩ = some (.int .i64 ((J67 l0 x5_1).f2.f3)) ∧ w'.cell? ⟨gb152, 6, none⟩ = some (.bool ((J67 l0 x5_1).f3.f0)) ∧ w'.cell? ⟨gb152, 7, none⟩ = some (.int .i64 ((J67 l0 x5_1).f3.f1)) ∧ w'.cell? ⟨gb152, 8, none⟩ = some (.int .i64 ((J67 l0 x5_1).f3.f2)) ∧ w'.cell? ⟨gb152, 9, none⟩ = some (.slice A151_9 ((J67 l0 x5_1).f3.f3).length c151_9)) (ds := []) #[false,false,false,false,false,false,false,false,false,false,false,false,false,false,false,false,false,false,false,false,false,false,false,false,false,false,false,false,false,false] (by kernel_rfl) rfl rfl ⟨(blk_cell BK152.out 0).trans rfl, (blk_cell BK152.out 1).trans rfl, (blk_cell BK152.out 2).trans rfl, (blk_cell BK152.out 3).trans rfl, (blk_cell BK152.out 4).trans rfl, (blk_cell BK152.out 5).trans rfl, (blk_cell BK152.out 6).trans rfl, (blk_cell BK152.out 7).trans rfl, (blk_cell BK152.out 8).trans rfl, (blk_cell BK152.out 9).trans rfl⟩ (fun hHeld => ?_); refine with_tabW larchref05_Check.tab9 larchref05_Check.bits9 (fun HT_ HW_ => ?_)
          generalize w15.drew = w16 at HO_3 HO_4 BK152 HB hHeld ⊢
          refine pure_ (i := 0) (N := some 22) (v := ?_) (a' := ?_) #[true,false,false,false,false,false,false,false,false,false,false,false,false,false,false,false,false,false,false,false,false,false,false,false,false,false,false,false,false,false] rfl rfl (aK HT_.out) (fun _ _ _ h => h) (Or.inl ⟨by rfl, ?_⟩) ?_ ?_
          rotate_left
          ·
           intro w'
           go_simp
           with_reducible rfl
          rotate_left
          ·
           simp only [Act.put, sp]
           rfl
          refine take_ (i := 1) (N := some 23) (v := ?_) (a' := ?_) #[true,true,false,false,false,false,false,false,false,false,false,false,false,false,false,false,false,false,false,false,false,false,false,false,false,false,false,false,false,false] rfl rfl (take_ofW HT_.out HW_.out (by kernel_rfl)) (fun _ _ _ h => h) (Or.inl ⟨by rfl, ?_⟩) hHeld ?_ ?_
          rotate_left
          ·
           rintro w' ⟨s0, s1, s2, s3, s4, s5, s6, s7, s8, s9⟩
           go_simp
           with_reducible rfl
          rotate_left
          ·
           simp only [Act.put, sp]
           rfl
          refine pure_ (i := 2) (N := some 24) (v := ?_) (a' := ?_) #[true,true,true,false,false,false,false,false,false,false,false,false,false,false,false,false,false,false,false,false,false,false,false,false,false,false,false,false,false,false] rfl rfl (aK HT_.out) (fun _ _ _ h => h) (Or.inl ⟨by rfl, ?_⟩) ?_ ?_
          rotate_left
          ·
           intro w'
           go_simp
           with_reducible rfl
          rotate_left
          ·
           simp only [Act.put, sp]
           rfl
          refine pure_ (i := 3) (N := some 25) (v := ?_) (a' := ?_) #[true,true,true,true,false,false,false,false,false,false,false,false,false,false,false,false,false,false,false,false,false,false,false,false,false,false,false,false,false,false] rfl rfl (aK HT_.out) (fun _ _ _ h => h) (Or.inl ⟨by rfl, ?_⟩) ?_ ?_
          rotate_left
          ·
           intro w'
           go_simp
           with_reducible rfl
          rotate_left
          ·
           simp only [Act.put, sp]
           rfl
          refine pure_ (i := 4) (N := some 26) (v := undef) (a' := ?_) #[true,true,true,true,true,false,false,false,false,false,false,false,false,false,false,false,false,false,false,false,false,false,false,false,false,false,false,false,false,false] rfl rfl (aK HT_.out) (fun _ _ _ h => h) (Or.inr ⟨by rfl, rfl⟩) ?_ ?_
          rotate_left
          ·
           simp only [Act.put, sp]
           rfl
          refine pure_ (i := 5) (N := some 27) (v := undef) (a' := ?_) #[true,true,true,true,true,true,false,false,false,false,false,false,false,false,false,false,false,false,false,false,false,false,false,false,false,false,false,false,false,false] rfl rfl (aK HT_.out) (fun _ _ _ h => h) (Or.inr ⟨by rfl, rfl⟩) ?_ ?_
          rotate_left
          ·
           simp only [Act.put, sp]
           rfl
          refine pure_ (i := 6) (N := some 28) (v := undef) (a' := ?_) #[true,true,true,true,true,true,true,false,false,false,false,false,false,false,false,false,false,false,false,false,false,false,false,false,false,false,false,false,false,false] rfl rfl (aK HT_.out) (fun _ _ _ h => h) (Or.inr ⟨by rfl, rfl⟩) ?_ ?_
          rotate_left
          ·
           simp only [Act.put, sp]
           rfl
          refine pure_ (i := 7) (N := some 29) (v := ?_) (a' := ?_) #[true,true,true,true,true,true,true,true,false,false,false,false,false,false,false,false,false,false,false,false,false,false,false,false,false,false,false,false,false,false] rfl rfl (aK HT_.out) (fun _ _ _ h => h) (Or.inl ⟨by rfl, ?_⟩) ?_ ?_
          rotate_left
          ·
           intro w'
           go_simp
           with_reducible rfl
          rotate_left
          ·
           simp only [Act.put, sp]
           rfl
          refine pure_ (i := 8) (N := some 30) (v := ?_) (a' := ?_) #[true,true,true,true,true,true,true,true,true,false,false,false,false,false,false,false,false,false,false,false,false,false,false,false,false,false,false,false,false,false] rfl rfl (aK HT_.out) (fun _ _ _ h => h) (Or.inl ⟨by rfl, ?_⟩) ?_ ?_
          rotate_left
          ·
           intro w'
           go_simp
           with_reducible rfl
          rotate_left
          ·
           simp only [Act.put, sp]
           rfl
          refine pure_ (i := 9) (N := some 31) (v := undef) (a' := ?_) #[true,true,true,true,true,true,true,true,true,true,false,false,false,false,false,false,false,false,false,false,false,false,false,false,false,false,false,false,false,false] rfl rfl (aK HT_.out) (fun _ _ _ h => h) (Or.inr ⟨by rfl, rfl⟩) ?_ ?_
          rotate_left
          ·
           simp only [Act.put, sp]
           rfl
          refine pure_ (i := 10) (N := some 32) (v := undef) (a' := ?_) #[true,true,true,true,true,true,true,true,true,true,true,false,false,false,false,false,false,false,false,false,false,false,false,false,false,false,false,false,false,false] rfl rfl (aK HT_.out) (fun _ _ _ h => h) (Or.inr ⟨by rfl, rfl⟩) ?_ ?_
          rotate_left
          ·
           simp only [Act.put, sp]
           rfl
          refine pure_ (i := 11) (N := some 33) (v := undef) (a' := ?_) #[true,true,true,true,true,true,true,true,true,true,true,true,false,false,false,false,false,false,false,false,false,false,false,false,false,false,false,false,false,false] rfl rfl (aK HT_.out) (fun _ _ _ h => h) (Or.inr ⟨by rfl, rfl⟩) ?_ ?_
          rotate_left
          ·
           simp only [Act.put, sp]
           rfl
          refine pure_ (i := 12) (N := some 34) (v := undef) (a' := ?_) #[true,true,true,true,true,true,true,true,true,true,true,true,true,false,false,false,false,false,false,false,false,false,false,false,false,false,false,false,false,false] rfl rfl (aK HT_.out) (fun _ _ _ h => h) (Or.inr ⟨by rfl, rfl⟩) ?_ ?_
          rotate_left
          ·
           simp only [Act.put, sp]
           rfl
          refine pure_ (i := 13) (N := some 35) (v := ?_) (a' := ?_) #[true,true,true,true,true,true,true,true,true,true,true,true,true,true,false,false,false,false,false,false,false,false,false,false,false,false,false,false,false,false] rfl rfl (aK HT_.out) (fun _ _ _ h => h) (Or.inl ⟨by rfl, ?_⟩) ?_ ?_
          rotate_left
          ·
           intro w'
           go_simp
           with_reducible rfl
          rotate_left
          ·
           simp only [Act.put, sp]
           rfl
          refine pure_ (i := 14) (N := some 36) (v := ?_) (a' := ?_) #[true,true,true,true,true,true,true,true,true,true,true,true,true,true,true,false,false,false,false,false,false,false,false,false,false,false,false,false,false,false] rfl rfl (aK HT_.out) (fun _ _ _ h => h) (Or.inl ⟨by rfl, ?_⟩) ?_ ?_
          rotate_left
          ·
           intro w'
           go_simp
           with_reducible rfl
          rotate_left
          ·
           simp only [Act.put, sp]
           rfl
          refine pure_ (i := 15) (N := some 37) (v := undef) (a' := ?_) #[true,true,true,true,true,true,true,true,true,true,true,true,true,true,true,true,false,false,false,false,false,false,false,false,false,false,false,false,false,false] rfl rfl (aK HT_.out) (fun _ _ _ h => h) (Or.inr ⟨by rfl, rfl⟩) ?_ ?_
          rotate_left
          ·
           simp only [Act.put, sp]
           rfl
          refine pure_ (i := 16) (N := some 38) (v := undef) (a' := ?_) #[true,true,true,true,true,true,true,true,true,true,true,true,true,true,true,true,true,false,false,false,false,false,false,false,false,false,false,false,false,false] rfl rfl (aK HT_.out) (fun _ _ _ h => h) (Or.inr ⟨by rfl, rfl⟩) ?_ ?_
          rotate_left
          ·
           simp only [Act.put, sp]
           rfl
          refine pure_ (i := 17) (N := some 39) (v := undef) (a' := ?_) #[true,true,true,true,true,true,true,true,true,true,true,true,true,true,true,true,true,true,false,false,false,false,false,false,false,false,false,false,false,false] rfl rfl (aK HT_.out) (fun _ _ _ h => h) (Or.inr ⟨by rfl, rfl⟩) ?_ ?_
          rotate_left
          ·
           simp only [Act.put, sp]
           rfl
          refine pure_ (i := 18) (N := some 40) (v := undef) (a' := ?_) #[true,true,true,true,true,true,true,true,true,true,true,true,true,true,true,true,true,true,true,false,false,false,false,false,false,false,false,false,false,false] rfl rfl (aK HT_.out) (fun _ _ _ h => h) (Or.inr ⟨by rfl, rfl⟩) ?_ ?_
          rotate_left
          ·
           simp only [Act.put, sp]
           rfl
          refine pure_ (i := 19) (N := some 41) (v := ?_) (a' := ?_) #[true,true,true,true,true,true,true,true,true,true,true,true,true,true,true,true,true,true,true,true,false,false,false,false,false,false,false,false,false,false] rfl rfl (aK HT_.out) (fun _ _ _ h => h) (Or.inl ⟨by rfl, ?_⟩) ?_ ?_
          rotate_left
          ·
           intro w'
           go_simp
           with_reducible rfl
          rotate_left
          ·
           simp only [Act.put, sp]
           rfl
          refine pure_ (i := 20) (N := some 42) (v := ?_) (a' := ?_) #[true,true,true,true,true,true,true,true,true,true,true,true,true,true,true,true,true,true,true,true,true,false,false,false,false,false,false,false,false,false] rfl rfl (aK HT_.out) (fun _ _ _ h => h) (Or.inl ⟨by rfl, ?_⟩) ?_ ?_
          rotate_left
          ·
           intro w'
           go_simp
           with_reducible rfl
          rotate_left
          ·
           simp only [Act.put, sp]
           rfl
          refine pure_ (i := 21) (N := some 43) (v := undef) (a' := ?_) #[true,true,true,true,true,true,true,true,true,true,true,true,true,true,true,true,true,true,true,true,true,true,false,false,false,false,false,false,false,false] rfl rfl (aK HT_.out) (fun _ _ _ h => h) (Or.inr ⟨by rfl, rfl⟩) ?_ ?_
          rotate_left
          ·
           simp only [Act.put, sp]
           rfl
          refine pure_ (i := 22) (N := some 44) (v := undef) (a' := ?_) #[true,true,true,true,true,true,true,true,true,true,true,true,true,true,true,true,true,true,true,true,true,true,true,false,false,false,false,false,false,false] rfl rfl (aK HT_.out) (fun _ _ _ h => h) (Or.inr ⟨by rfl, rfl⟩) ?_ ?_
          rotate_left
          ·
           simp only [Act.put, sp]
           rfl
          refine pure_ (i := 23) (N := some 45) (v := undef) (a' := ?_) #[true,true,true,true,true,true,true,true,true,true,true,true,true,true,true,true,true,true,true,true,true,true,true,true,false,false,false,false,false,false] rfl rfl (aK HT_.out) (fun _ _ _ h => h) (Or.inr ⟨by rfl, rfl⟩) ?_ ?_
          rotate_left
          ·
           simp only [Act.put, sp]
           rfl
          refine pure_ (i := 24) (N := some 46) (v := undef) (a' := ?_) #[true,true,true,true,true,true,true,true,true,true,true,true,true,true,true,true,true,true,true,true,true,true,true,true,true,false,false,false,false,false] rfl rfl (aK HT_.out) (fun _ _ _ h => h) (Or.inr ⟨by rfl, rfl⟩) ?_ ?_
          rotate_left
          ·
           simp only [Act.put, sp]
           rfl
          refine pure_ (i := 25) (N := some 47) (v := undef) (a' := ?_) #[true,true,true,true,true,true,true,true,true,true,true,true,true,true,true,true,true,true,true,true,true,true,true,true,true,true,false,false,false,false] rfl rfl (aK HT_.out) (fun _ _ _ h => h) (Or.inr ⟨by rfl, rfl⟩) ?_ ?_
          rotate_left
          ·
           simp only [Act.put, sp]
           rfl
          refine pure_ (i := 26) (N := some 48) (v := undef) (a' := ?_) #[true,true,true,true,true,true,true,true,true,true,true,true,true,true,true,true,true,true,true,true,true,true,true,true,true,true,true,false,false,false] rfl rfl (aK HT_.out) (fun _ _ _ h => h) (Or.inr ⟨by rfl, rfl⟩) ?_ ?_
          rotate_left
          ·
           simp only [Act.put, sp]
           rfl
          refine pure_ (i := 27) (N := some 49) (v := undef) (a' := ?_) #[true,true,true,true,true,true,true,true,true,true,true,true,true,true,true,true,true,true,true,true,true,true,true,true,true,true,true,true,false,false] rfl rfl (aK HT_.out) (fun _ _ _ h => h) (Or.inr ⟨by rfl, rfl⟩) ?_ ?_
          rotate_left
          ·
           simp only [Act.put, sp]
           rfl
          refine pure_ (i := 28) (N := some 50) (v := undef) (a' := ?_) #[true,true,true,true,true,true,true,true,true,true,true,true,true,true,true,true,true,true,true,true,true,true,true,true,true,true,true,true,true,false] rfl rfl (aK HT_.out) (fun _ _ _ h => h) (Or.inr ⟨by rfl, rfl⟩) ?_ ?_
          rotate_left
          ·
           simp only [Act.put, sp]
           rfl
          refine pure_ (i := 29) (N := some 51) (v := ?_) (a' := ?_) #[true,true,true,true,true,true,true,true,true,true,true,true,true,true,true,true,true,true,true,true,true,true,true,true,true,true,true,true,true,true] rfl rfl (aK HT_.out) (fun _ _ _ h => h) (Or.inl ⟨by rfl, ?_⟩) ?_ ?_
          rotate_left
          ·
           intro w'
           go_simp
           with_reducible rfl
          rotate_left
          ·
           simp only [Act.put, sp]
           rfl
          refine done_ (done_of HT_.out (by kernel_rfl)) ?_
          try go_wp2
          go_meet
          case rel => exact ⟨_, (true), rs, H', ⟨by have := HK1.out; first | omega | exact Nat.le_refl _⟩, ⟨skR HO_3.out⟩, ⟨skR HO_4.out⟩, ⟨skK BK152.out⟩, ⟨skG HB.out GE152.out GE152.out⟩⟩
         ·
          rw [if_neg c14] at H
          have c14b0 : decide (((J67 l0 x5_1).f0) < 0) = false := decide_eq_false c14
          clear c14
          (first | rw [c14b0] | (simp only [i64_w, i32_w]; rw [c14b0]) | skip)
          by_cases c17 : ((J67 l0 x5_1).f0) ≥ 64
          ·
           rw [if_pos c17] at H
           have c17b0 : decide (64 ≤ ((J67 l0 x5_1).f0)) = true := decide_eq_true c17
           clear c17
           have H' := asd H
           clear H
           try go_wp2
           have n0_ : Aside0 (Kd.R Kd.bool 4 ((((((((((w12.setCell ⟨gb152, 0, none⟩ (.int .i64 ((J67 l0 x5_1).f0))).setCell ⟨gb152, 1, none⟩ (.bool ((J67 l0 x5_1).f1))).setCell ⟨gb152, 2, none⟩ (.int .i64 ((J67 l0 x5_1).f2.f0))).setCell ⟨gb152, 3, none⟩ (.int .i64 ((J67 l0 x5_1).f2.f1))).setCell ⟨gb152, 4, none⟩ (.int .i64 ((J67 l0 x5_1).f2.f2))).setCell ⟨gb152, 5, none⟩ (.int .i64 ((J67 l0 x5_1).f2.f3))).setCell ⟨gb152, 6, none⟩ (.bool ((J67 l0 x5_1).f3.f0))).setCell ⟨gb152, 7, none⟩ (.int .i64 ((J67 l0 x5_1).f3.f1))).setCell ⟨gb152, 8, none⟩ (.int .i64 ((J67 l0 x5_1).f3.f2))).setCell ⟨gb152, 9, none⟩ (.slice A151_9 ((J67 l0 x5_1).f3.f3).length c151_9)) w.heap.size (fun _ => True) v146 x3_1) := ⟨skR (Kd.R_mono (Kd.R_far (p := ⟨gb152, 9, none⟩) (Kd.R_far (p := ⟨gb152, 8, none⟩) (Kd.R_far (p := ⟨gb152, 7, none⟩) (Kd.R_far (p := ⟨gb152, 6, none⟩) (Kd.R_far (p := ⟨gb152, 5, none⟩) (Kd.R_far (p := ⟨gb152, 4, none⟩) (Kd.R_far (p := ⟨gb152, 3, none⟩) (Kd.R_far (p := ⟨gb152, 2, none⟩) (Kd.R_far (p := ⟨gb152, 1, none⟩) (Kd.R_far (p := ⟨gb152, 0, none⟩) (Kd.R_types HO_3.out BK152.out (by decide)) (fun _ hk => hk.2) (.int .i64 ((J67 l0 x5_1).f0))) (fun _ hk => hk.2) (.bool ((J67 l0 x5_1).f1))) (fun _ hk => hk.2) (.int .i64 ((J67 l0 x5_1).f2.f0))) (fun _ hk => hk.2) (.int .i64 ((J67 l0 x5_1).f2.f1))) (fun _ hk => hk.2) (.int .i64 ((J67 l0 x5_1).f2.f2))) (fun _ hk => hk.2) (.int .i64 ((J67 l0 x5_1).f2.f3))) (fun _ hk => hk.2) (.bool ((J67 l0 x5_1).f3.f0))) (fun _ hk => hk.2) (.int .i64 ((J67 l0 x5_1).f3.f1))) (fun _ hk => hk.2) (.int .i64 ((J67 l0 x5_1).f3.f2))) (fun _ hk => hk.2) (.slice A151_9 ((J67 l0 x5_1).f3.f3).length c151_9)) (fun _ hk => trivial))⟩
           have n1_ : Aside0 (Kd.R k33 33 ((((((((((w12.setCell ⟨gb152, 0, none⟩ (.int .i64 ((J67 l0 x5_1).f0))).setCell ⟨gb152, 1, none⟩ (.bool ((J67 l0 x5_1).f1))).setCell ⟨gb152, 2, none⟩ (.int .i64 ((J67 l0 x5_1).f2.f0))).setCell ⟨gb152, 3, none⟩ (.int .i64 ((J67 l0 x5_1).f2.f1))).setCell ⟨gb152, 4, none⟩ (.int .i64 ((J67 l0 x5_1).f2.f2))).setCell ⟨gb152, 5, none⟩ (.int .i64 ((J67 l0 x5_1).f2.f3))).setCell ⟨gb152, 6, none⟩ (.bool ((J67 l0 x5_1).f3.f0))).setCell ⟨gb152, 7, none⟩ (.int .i64 ((J67 l0 x5_1).f3.f1))).setCell ⟨gb152, 8, none⟩ (.int .i64 ((J67 l0 x5_1).f3.f2))).setCell ⟨gb152, 9, none⟩ (.slice A151_9 ((J67 l0 x5_1).f3.f3).length c151_9)) w.heap.size (fun _ => True) v149 x4_1) := ⟨skR (Kd.R_mono (Kd.R_far (p := ⟨gb152, 9, none⟩) (Kd.R_far (p := ⟨gb152, 8, none⟩) (Kd.R_far (p := ⟨gb152, 7, none⟩) (Kd.R_far (p := ⟨gb152, 6, none⟩) (Kd.R_far (p := ⟨gb152, 5, none⟩) (Kd.R_far (p := ⟨gb152, 4, none⟩) (Kd.R_far (p := ⟨gb152, 3, none⟩) (Kd.R_far (p := ⟨gb152, 2, none⟩) (Kd.R_far (p := ⟨gb152, 1, none⟩) (Kd.R_far (p := ⟨gb152, 0, none⟩) (Kd.R_types HO_4.out BK152.out (by decide)) (fun _ hk => hk.2) (.int .i64 ((J67 l0 x5_1).f0))) (fun _ hk => hk.2) (.bool ((J67 l0 x5_1).f1))) (fun _ hk => hk.2) (.int .i64 ((J67 l0 x5_1).f2.f0))) (fun _ hk => hk.2) (.int .i64 ((J67 l0 x5_1).f2.f1))) (fun _ hk => hk.2) (.int .i64 ((J67 l0 x5_1).f2.f2))) (fun _ hk => hk.2) (.int .i64 ((J67 l0 x5_1).f2.f3))) (fun _ hk => hk.2) (.bool ((J67 l0 x5_1).f3.f0))) (fun _ hk => hk.2) (.int .i64 ((J67 l0 x5_1).f3.f1))) (fun _ hk => hk.2) (.int .i64 ((J67 l0 x5_1).f3.f2))) (fun _ hk => hk.2) (.slice A151_9 ((J67 l0 x5_1).f3.f3).length c151_9)) (fun _ hk => trivial))⟩
           have n2_ : Aside0 (((((((((((w12.setCell ⟨gb152, 0, none⟩ (.int .i64 ((J67 l0 x5_1).f0))).setCell ⟨gb152, 1, none⟩ (.bool ((J67 l0 x5_1).f1))).setCell ⟨gb152, 2, none⟩ (.int .i64 ((J67 l0 x5_1).f2.f0))).setCell ⟨gb152, 3, none⟩ (.int .i64 ((J67 l0 x5_1).f2.f1))).setCell ⟨gb152, 4, none⟩ (.int .i64 ((J67 l0 x5_1).f2.f2))).setCell ⟨gb152, 5, none⟩ (.int .i64 ((J67 l0 x5_1).f2.f3))).setCell ⟨gb152, 6, none⟩ (.bool ((J67 l0 x5_1).f3.f0))).setCell ⟨gb152, 7, none⟩ (.int .i64 ((J67 l0 x5_1).f3.f1))).setCell ⟨gb152, 8, none⟩ (.int .i64 ((J67 l0 x5_1).f3.f2))).setCell ⟨gb152, 9, none⟩ (.slice A151_9 ((J67 l0 x5_1).f3.f3).length c151_9)).heap[gb152]? = some (.cells #[.int .i64 ((J67 l0 x5_1).f0), .bool ((J67 l0 x5_1).f1), .int .i64 ((J67 l0 x5_1).f2.f0), .int .i64 ((J67 l0 x5_1).f2.f1), .int .i64 ((J67 l0 x5_1).f2.f2), .int .i64 ((J67 l0 x5_1).f2.f3), .bool ((J67 l0 x5_1).f3.f0), .int .i64 ((J67 l0 x5_1).f3.f1), .int .i64 ((J67 l0 x5_1).f3.f2), .slice A151_9 ((J67 l0 x5_1).f3.f3).length c151_9] 67 (0, 0))) := ⟨by refine skk ?_; refine blk_put (cs := #[.int .i64 ((J67 l0 x5_1).f0), .bool ((J67 l0 x5_1).f1), .int .i64 ((J67 l0 x5_1).f2.f0), .int .i64 ((J67 l0 x5_1).f2.f1), .int .i64 ((J67 l0 x5_1).f2.f2), .int .i64 ((J67 l0 x5_1).f2.f3), .bool ((J67 l0 x5_1).f3.f0), .int .i64 ((J67 l0 x5_1).f3.f1), .int .i64 ((J67 l0 x5_1).f3.f2), .slice none 0 0]) ?_ 9 _ rfl; refine skk ?_; refine blk_put (cs := #[.int .i64 ((J67 l0 x5_1).f0), .bool ((J67 l0 x5_1).f1), .int .i64 ((J67 l0 x5_1).f2.f0), .int .i64 ((J67 l0 x5_1).f2.f1), .int .i64 ((J67 l0 x5_1).f2.f2), .int .i64 ((J67 l0 x5_1).f2.f3), .bool ((J67 l0 x5_1).f3.f0), .int .i64 ((J67 l0 x5_1).f3.f1), .int .i64 0, .slice none 0 0]) ?_ 8 _ rfl; refine skk ?_; refine blk_put (cs := #[.int .i64 ((J67 l0 x5_1).f0), .bool ((J67 l0 x5_1).f1), .int .i64 ((J67 l0 x5_1).f2.f0), .int .i64 ((J67 l0 x5_1).f2.f1), .int .i64 ((J67 l0 x5_1).f2.f2), .int .i64 ((J67 l0 x5_1).f2.f3), .bool ((J67 l0 x5_1).f3.f0), .int .i64 0, .int .i64 0, .slice none 0 0]) ?_ 7 _ rfl; refine skk ?_; refine blk_put (cs := #[.int .i64 ((J67 l0 x5_1).f0), .bool ((J67 l0 x5_1).f1), .int .i64 ((J67 l0 x5_1).f2.f0), .int .i64 ((J67 l0 x5_1).f2.f1), .int .i64 ((J67 l0 x5_1).f2.f2), .int .i64 ((J67 l0 x5_1).f2.f3), .bool false, .int .i64 0, .int .i64 0, .slice none 0 0]) ?_ 6 _ rfl; refine skk ?_; refine blk_put (cs := #[.int .i64 ((J67 l0 x5_1).f0), .bool ((J67 l0 x5_1).f1), .int .i64 ((J67 l0 x5_1).f2.f0), .int .i64 ((J67 l0 x5_1).f2.f1), .int .i64 ((J67 l0 x5_1).f2.f2), .int .i64 0, .bool false, .int .i64 0, .int .i64 0, .slice none 0 0]) ?_ 5 _ rfl; refine skk ?_; refine blk_put (cs := #[.int .i64 ((J67 l0 x5_1).f0), .bool ((J67 l0 x5_1).f1), .int .i64 ((J67 l0 x5_1).f2.f0), .int .i64 ((J67 l0 x5_1).f2.f1), .int .i64 0, .int .i64 0, .bool false, .int .i64 0, .int .i64 0, .slice none 0 0]) ?_ 4 _ rfl; refine skk ?_; refine blk_put (cs := #[.int .i64 ((J67 l0 x5_1).f0), .bool ((J67 l0 x5_1).f1), .int .i64 ((J67 l0 x5_1).f2.f0), .int .i64 0, .int .i64 0, .int .i64 0, .bool false, .int .i64 0, .int .i64 0, .slice none 0 0]) ?_ 3 _ rfl; refine skk ?_; refine blk_put (cs := #[.int .i64 ((J67 l0 x5_1).f0), .bool ((J67 l0 x5_1).f1), .int .i64 0, .int .i64 0, .int .i64 0, .int .i64 0, .bool false, .int .i64 0, .int .i64 0, .slice none 0 0]) ?_ 2 _ rfl; refine skk ?_; refine blk_put (cs := #[.int .i64 ((J67 l0 x5_1).f0), .bool false, .int .i64 0, .int .i64 0, .int .i64 0, .int .i64 0, .bool false, .int .i64 0, .int .i64 0, .slice none 0 0]) ?_ 1 _ rfl; refine skk ?_; refine blk_put (cs := #[.int .i64 0, .bool false, .int .i64 0, .int .i64 0, .int .i64 0, .int .i64 0, .bool false, .int .i64 0, .int .i64 0, .slice none 0 0]) ?_ 0 _ rfl; refine skk ?_; exact BK152.out⟩
           have n3_ : Aside0 (Below w.heap.size w ((((((((((w12.setCell ⟨gb152, 0, none⟩ (.int .i64 ((J67 l0 x5_1).f0))).setCell ⟨gb152, 1, none⟩ (.bool ((J67 l0 x5_1).f1))).setCell ⟨gb152, 2, none⟩ (.int .i64 ((J67 l0 x5_1).f2.f0))).setCell ⟨gb152, 3, none⟩ (.int .i64 ((J67 l0 x5_1).f2.f1))).setCell ⟨gb152, 4, none⟩ (.int .i64 ((J67 l0 x5_1).f2.f2))).setCell ⟨gb152, 5, none⟩ (.int .i64 ((J67 l0 x5_1).f2.f3))).setCell ⟨gb152, 6, none⟩ (.bool ((J67 l0 x5_1).f3.f0))).setCell ⟨gb152, 7, none⟩ (.int .i64 ((J67 l0 x5_1).f3.f1))).setCell ⟨gb152, 8, none⟩ (.int .i64 ((J67 l0 x5_1).f3.f2))).setCell ⟨gb152, 9, none⟩ (.slice A151_9 ((J67 l0 x5_1).f3.f3).length c151_9))) := ⟨skG HB.out GE152.out GE152.out⟩
           (try clear HO_3)
           (try clear HO_4)
           (try clear BK152)
           (try clear HB)
           generalize ((((((((((w12.setCell ⟨gb152, 0, none⟩ (.int .i64 ((J67 l0 x5_1).f0))).setCell ⟨gb152, 1, none⟩ (.bool ((J67 l0 x5_1).f1))).setCell ⟨gb152, 2, none⟩ (.int .i64 ((J67 l0 x5_1).f2.f0))).setCell ⟨gb152, 3, none⟩ (.int .i64 ((J67 l0 x5_1).f2.f1))).setCell ⟨gb152, 4, none⟩ (.int .i64 ((J67 l0 x5_1).f2.f2))).setCell ⟨gb152, 5, none⟩ (.int .i64 ((J67 l0 x5_1).f2.f3))).setCell ⟨gb152, 6, none⟩ (.bool ((J67 l0 x5_1).f3.f0))).setCell ⟨gb152, 7, none⟩ (.int .i64 ((J67 l0 x5_1).f3.f1))).setCell ⟨gb152, 8, none⟩ (.int .i64 ((J67 l0 x5_1).f3.f2))).setCell ⟨gb152, 9, none⟩ (.slice A151_9 ((J67 l0 x5_1).f3.f3).length c151_9)) = w18 at n0_ n1_ n2_ n3_ ⊢
           have HO_3 := n0_
           have HO_4 := n1_
           have BK152 := n2_
           have HB := n3_
           clear n0_ n1_ n2_ n3_
           have n0_ := asd (Kd.R_drew HO_3.out)
           have n1_ := asd (Kd.R_drew HO_4.out)
           have n2_ := asd (blk_drew BK152.out)
           have n3_ := asd (below_drew1 HB.out)
           clear HO_3
           clear HO_4
           clear BK152
           clear HB
           have HO_3 := n0_
           have HO_4 := n1_
           have BK152 := n2_
           have HB := n3_
           clear n0_ n1_ n2_ n3_
           refine start_ (n := 30) (S := fun w' => w'.cell? ⟨gb152, 0, none⟩ = some (.int .i64 ((J67 l0 x5_1).f0)) ∧ w'.cell? ⟨gb152, 1, none⟩ = some (.bool ((J67 l0 x5_1).f1)) ∧ w'.cell? ⟨gb152, 2, none⟩ = some (.int .i64 ((J67 l0 x5_1).f2.f0)) ∧ w'.cell? ⟨gb152, 3, none⟩ = some (.int .i64 ((J67 l0 x5_1).f2.f1)) ∧ w'.cell? ⟨gb152, 4, none⟩ = some (.int .i64 ((J67 l0 x5_1).f2.f2)) ∧ w'.cell? ⟨gb152, 5, none⟩ = some (.int .i64 ((J67 l0 x5_1).f2.f3)) ∧ w'.cell? ⟨gb152, 6, none⟩ = some (.bool ((J67 l0 x5_1).f3.f0)) ∧ w'.cell? ⟨gb152, 7, none⟩ = some (.int .i64 ((J67 l0 x5_1).f3.f1)) ∧ w'.cell? ⟨gb152, 8, none⟩ = some (.int .i64 ((J67 l0 x5_1).f3.f2)) ∧ w'.cell? ⟨gb152, 9, none⟩ = some (.slice A151_9 ((J67 l0 x5_1).f3.f3).length c151_9)) (ds := []) #[false,false,false,false,false,false,false,false,false,false,false,false,false,false,false,false,false,false,false,false,false,false,false,false,false,false,false,false,false,false] (by kernel_rfl) rfl rfl ⟨(blk_cell BK152.out 0).trans rfl, (blk_cell BK152.out 1).trans rfl, (blk_cell BK152.out 2).trans rfl, (blk_cell BK152.out 3).trans rfl, (blk_cell BK152.out 4).trans rfl, (blk_cell BK152.out 5).trans rfl, (blk_cell BK152.out 6).trans rfl, (blk_cell BK152.out 7).trans rfl, (blk_cell BK152.out 8).trans rfl, (blk_cell BK152.out 9).trans rfl⟩ (fun hHeld => ?_); refine with_tabW larchref05_Check.tab9 larchref05_Check.bits9 (fun HT_ HW_ => ?_)
           generalize w18.drew = w19 at HO_3 HO_4 BK152 HB hHeld ⊢
           refine pure_ (i := 0) (N := some 22) (v := ?_) (a' := ?_) #[true,false,false,false,false,false,false,false,false,false,false,false,false,false,false,false,false,false,false,false,false,false,false,false,false,false,false,false,false,false] rfl rfl (aK HT_.out) (fun _ _ _ h => h) (Or.inl ⟨by rfl, ?_⟩) ?_ ?_
           rotate_left
           ·
            intro w'
            go_simp
            with_reducible rfl
           rotate_left
           ·
            simp only [Act.put, sp]
            rfl
           refine take_ (i := 1) (N := some 23) (v := ?_) (a' := ?_) #[true,true,false,false,false,false,false,false,false,false,false,false,false,false,false,false,false,false,false,false,false,false,false,false,false,false,false,false,false,false] rfl rfl (take_ofW HT_.out HW_.out (by kernel_rfl)) (fun _ _ _ h => h) (Or.inl ⟨by rfl, ?_⟩) hHeld ?_ ?_
           rotate_left
           ·
            rintro w' ⟨s0, s1, s2, s3, s4, s5, s6, s7, s8, s9⟩
            go_simp
            with_reducible rfl
           rotate_left
           ·
            simp only [Act.put, sp]
            rfl
           refine pure_ (i := 2) (N := some 24) (v := ?_) (a' := ?_) #[true,true,true,false,false,false,false,false,false,false,false,false,false,false,false,false,false,false,false,false,false,false,false,false,false,false,false,false,false,false] rfl rfl (aK HT_.out) (fun _ _ _ h => h) (Or.inl ⟨by rfl, ?_⟩) ?_ ?_
           rotate_left
           ·
            intro w'
            go_simp
            with_reducible rfl
           rotate_left
           ·
            simp only [Act.put, sp]
            rfl
           refine pure_ (i := 3) (N := some 25) (v := ?_) (a' := ?_) #[true,true,true,true,false,false,false,false,false,false,false,false,false,false,false,false,false,false,false,false,false,false,false,false,false,false,false,false,false,false] rfl rfl (aK HT_.out) (fun _ _ _ h => h) (Or.inl ⟨by rfl, ?_⟩) ?_ ?_
           rotate_left
           ·
            intro w'
            go_simp
            with_reducible rfl
           rotate_left
           ·
            simp only [Act.put, sp]
            rfl
           refine pure_ (i := 4) (N := some 26) (v := ?_) (a' := ?_) #[true,true,true,true,true,false,false,false,false,false,false,false,false,false,false,false,false,false,false,false,false,false,false,false,false,false,false,false,false,false] rfl rfl (aK HT_.out) (fun _ _ _ h => h) (Or.inl ⟨by rfl, ?_⟩) ?_ ?_
           rotate_left
           ·
            intro w'
            go_simp
            with_reducible rfl
           rotate_left
           ·
            simp only [Act.put, sp]
            rfl
           refine take_ (i := 5) (N := some 27) (v := ?_) (a' := ?_) #[true,true,true,true,true,true,false,false,false,false,false,false,false,false,false,false,false,false,false,false,false,false,false,false,false,false,false,false,false,false] rfl rfl (take_ofW HT_.out HW_.out (by kernel_rfl)) (fun _ _ _ h => h) (Or.inl ⟨by rfl, ?_⟩) hHeld ?_ ?_
           rotate_left
           ·
            rintro w' ⟨s0, s1, s2, s3, s4, s5, s6, s7, s8, s9⟩
            go_simp
            with_reducible rfl
           rotate_left
           ·
            simp only [Act.put, sp]
            rfl
           refine pure_ (i := 6) (N := some 28) (v := ?_) (a' := ?_) #[true,true,true,true,true,true,true,false,false,false,false,false,false,false,false,false,false,false,false,false,false,false,false,false,false,false,false,false,false,false] rfl rfl (aK HT_.out) (fun _ _ _ h => h) (Or.inl ⟨by rfl, ?_⟩) ?_ ?_
           rotate_left
           ·
            intro w'
            go_simp
            with_reducible rfl
           rotate_left
           ·
            simp only [Act.put, sp]
            rfl
           refine pure_ (i := 7) (N := some 29) (v := ?_) (a' := ?_) #[true,true,true,true,true,true,true,true,false,false,false,false,false,false,false,false,false,false,false,false,false,false,false,false,false,false,false,false,false,false] rfl rfl (aK HT_.out) (fun _ _ _ h => h) (Or.inl ⟨by rfl, ?_⟩) ?_ ?_
           rotate_left
           ·
            intro w'
            go_simp
            with_reducible rfl
           rotate_left
           ·
            simp only [Act.put, sp]
            rfl
           refine pure_ (i := 8) (N := some 30) (v := ?_) (a' := ?_) #[true,true,true,true,true,true,true,true,true,false,false,false,false,false,false,false,false,false,false,false,false,false,false,false,false,false,false,false,false,false] rfl rfl (aK HT_.out) (fun _ _ _ h => h) (Or.inl ⟨by rfl, ?_⟩) ?_ ?_
           rotate_left
           ·
            intro w'
            go_simp
            with_reducible rfl
           rotate_left
           ·
            simp only [Act.put, sp]
            rfl
           refine pure_ (i := 9) (N := some 31) (v := undef) (a' := ?_) #[true,true,true,true,true,true,true,true,true,true,false,false,false,false,false,false,false,false,false,false,false,false,false,false,false,false,false,false,false,false] rfl rfl (aK HT_.out) (fun _ _ _ h => h) (Or.inr ⟨by rfl, rfl⟩) ?_ ?_
           rotate_left
           ·
            simp only [Act.put, sp]
            rfl
           refine pure_ (i := 10) (N := some 32) (v := undef) (a' := ?_) #[true,true,true,true,true,true,true,true,true,true,true,false,false,false,false,false,false,false,false,false,false,false,false,false,false,false,false,false,false,false] rfl rfl (aK HT_.out) (fun _ _ _ h => h) (Or.inr ⟨by rfl, rfl⟩) ?_ ?_
           rotate_left
           ·
            simp only [Act.put, sp]
            rfl
           refine pure_ (i := 11) (N := some 33) (v := undef) (a' := ?_) #[true,true,true,true,true,true,true,true,true,true,true,true,false,false,false,false,false,false,false,false,false,false,false,false,false,false,false,false,false,false] rfl rfl (aK HT_.out) (fun _ _ _ h => h) (Or.inr ⟨by rfl, rfl⟩) ?_ ?_
           rotate_left
           ·
            simp only [Act.put, sp]
            rfl
           refine pure_ (i := 12) (N := some 34) (v := undef) (a' := ?_) #[true,true,true,true,true,true,true,true,true,true,true,true,true,false,false,false,false,false,false,false,false,false,false,false,false,false,false,false,false,false] rfl rfl (aK HT_.out) (fun _ _ _ h => h) (Or.inr ⟨by rfl, rfl⟩) ?_ ?_
           rotate_left
           ·
            simp only [Act.put, sp]
            rfl
           refine pure_ (i := 13) (N := some 35) (v := ?_) (a' := ?_) #[true,true,true,true,true,true,true,true,true,true,true,true,true,true,false,false,false,false,false,false,false,false,false,false,false,false,false,false,false,false] rfl rfl (aK HT_.out) (fun _ _ _ h => h) (Or.inl ⟨by rfl, ?_⟩) ?_ ?_
           rotate_left
           ·
            intro w'
            go_simp
            with_reducible rfl
           rotate_left
           ·
            simp only [Act.put, sp]
            rfl
           refine pure_ (i := 14) (N := some 36) (v := ?_) (a' := ?_) #[true,true,true,true,true,true,true,true,true,true,true,true,true,true,true,false,false,false,false,false,false,false,false,false,false,false,false,false,false,false] rfl rfl (aK HT_.out) (fun _ _ _ h => h) (Or.inl ⟨by rfl, ?_⟩) ?_ ?_
           rotate_left
           ·
            intro w'
            go_simp
            with_reducible rfl
           rotate_left
           ·
            simp only [Act.put, sp]
            rfl
           refine pure_ (i := 15) (N := some 37) (v := undef) (a' := ?_) #[true,true,true,true,true,true,true,true,true,true,true,true,true,true,true,true,false,false,false,false,false,false,false,false,false,false,false,false,false,false] rfl rfl (aK HT_.out) (fun _ _ _ h => h) (Or.inr ⟨by rfl, rfl⟩) ?_ ?_
           rotate_left
           ·
            simp only [Act.put, sp]
            rfl
           refine pure_ (i := 16) (N := some 38) (v := undef) (a' := ?_) #[true,true,true,true,true,true,true,true,true,true,true,true,true,true,true,true,true,false,false,false,false,false,false,false,false,false,false,false,false,false] rfl rfl (aK HT_.out) (fun _ _ _ h => h) (Or.inr ⟨by rfl, rfl⟩) ?_ ?_
           rotate_left
           ·
            simp only [Act.put, sp]
            rfl
           refine pure_ (i := 17) (N := some 39) (v := undef) (a' := ?_) #[true,true,true,true,true,true,true,true,true,true,true,true,true,true,true,true,true,true,false,false,false,false,false,false,false,false,false,false,false,false] rfl rfl (aK HT_.out) (fun _ _ _ h => h) (Or.inr ⟨by rfl, rfl⟩) ?_ ?_
           rotate_left
           ·
            simp only [Act.put, sp]
            rfl
           refine pure_ (i := 18) (N := some 40) (v := undef) (a' := ?_) #[true,true,true,true,true,true,true,true,true,true,true,true,true,true,true,true,true,true,true,false,false,false,false,false,false,false,false,false,false,false] rfl rfl (aK HT_.out) (fun _ _ _ h => h) (Or.inr ⟨by rfl, rfl⟩) ?_ ?_
           rotate_left
           ·
            simp only [Act.put, sp]
            rfl
           refine pure_ (i := 19) (N := some 41) (v := ?_) (a' := ?_) #[true,true,true,true,true,true,true,true,true,true,true,true,true,true,true,true,true,true,true,true,false,false,false,false,false,false,false,false,false,false] rfl rfl (aK HT_.out) (fun _ _ _ h => h) (Or.inl ⟨by rfl, ?_⟩) ?_ ?_
           rotate_left
           ·
            intro w'
            go_simp
            with_reducible rfl
           rotate_left
           ·
            simp only [Act.put, sp]
            rfl
           refine pure_ (i := 20) (N := some 42) (v := ?_) (a' := ?_) #[true,true,true,true,true,true,true,true,true,true,true,true,true,true,true,true,true,true,true,true,true,false,false,false,false,false,false,false,false,false] rfl rfl (aK HT_.out) (fun _ _ _ h => h) (Or.inl ⟨by rfl, ?_⟩) ?_ ?_
           rotate_left
           ·
            intro w'
            go_simp
            with_reducible rfl
           rotate_left
           ·
            simp only [Act.put, sp]
            rfl
           refine pure_ (i := 21) (N := some 43) (v := undef) (a' := ?_) #[true,true,true,true,true,true,true,true,true,true,true,true,true,true,true,true,true,true,true,true,true,true,false,false,false,false,false,false,false,false] rfl rfl (aK HT_.out) (fun _ _ _ h => h) (Or.inr ⟨by rfl, rfl⟩) ?_ ?_
           rotate_left
           ·
            simp only [Act.put, sp]
            rfl
           refine pure_ (i := 22) (N := some 44) (v := undef) (a' := ?_) #[true,true,true,true,true,true,true,true,true,true,true,true,true,true,true,true,true,true,true,true,true,true,true,false,false,false,false,false,false,false] rfl rfl (aK HT_.out) (fun _ _ _ h => h) (Or.inr ⟨by rfl, rfl⟩) ?_ ?_
           rotate_left
           ·
            simp only [Act.put, sp]
            rfl
           refine pure_ (i := 23) (N := some 45) (v := undef) (a' := ?_) #[true,true,true,true,true,true,true,true,true,true,true,true,true,true,true,true,true,true,true,true,true,true,true,true,false,false,false,false,false,false] rfl rfl (aK HT_.out) (fun _ _ _ h => h) (Or.inr ⟨by rfl, rfl⟩) ?_ ?_
           rotate_left
           ·
            simp only [Act.put, sp]
            rfl
           refine pure_ (i := 24) (N := some 46) (v := undef) (a' := ?_) #[true,true,true,true,true,true,true,true,true,true,true,true,true,true,true,true,true,true,true,true,true,true,true,true,true,false,false,false,false,false] rfl rfl (aK HT_.out) (fun _ _ _ h => h) (Or.inr ⟨by rfl, rfl⟩) ?_ ?_
           rotate_left
           ·
            simp only [Act.put, sp]
            rfl
           refine pure_ (i := 25) (N := some 47) (v := undef) (a' := ?_) #[true,true,true,true,true,true,true,true,true,true,true,true,true,true,true,true,true,true,true,true,true,true,true,true,true,true,false,false,false,false] rfl rfl (aK HT_.out) (fun _ _ _ h => h) (Or.inr ⟨by rfl, rfl⟩) ?_ ?_
           rotate_left
           ·
            simp only [Act.put, sp]
            rfl
           refine pure_ (i := 26) (N := some 48) (v := undef) (a' := ?_) #[true,true,true,true,true,true,true,true,true,true,true,true,true,true,true,true,true,true,true,true,true,true,true,true,true,true,true,false,false,false] rfl rfl (aK HT_.out) (fun _ _ _ h => h) (Or.inr ⟨by rfl, rfl⟩) ?_ ?_
           rotate_left
           ·
            simp only [Act.put, sp]
            rfl
           refine pure_ (i := 27) (N := some 49) (v := undef) (a' := ?_) #[true,true,true,true,true,true,true,true,true,true,true,true,true,true,true,true,true,true,true,true,true,true,true,true,true,true,true,true,false,false] rfl rfl (aK HT_.out) (fun _ _ _ h => h) (Or.inr ⟨by rfl, rfl⟩) ?_ ?_
           rotate_left
           ·
            simp only [Act.put, sp]
            rfl
           refine pure_ (i := 28) (N := some 50) (v := undef) (a' := ?_) #[true,true,true,true,true,true,true,true,true,true,true,true,true,true,true,true,true,true,true,true,true,true,true,true,true,true,true,true,true,false] rfl rfl (aK HT_.out) (fun _ _ _ h => h) (Or.inr ⟨by rfl, rfl⟩) ?_ ?_
           rotate_left
           ·
            simp only [Act.put, sp]
            rfl
           refine pure_ (i := 29) (N := some 51) (v := ?_) (a' := ?_) #[true,true,true,true,true,true,true,true,true,true,true,true,true,true,true,true,true,true,true,true,true,true,true,true,true,true,true,true,true,true] rfl rfl (aK HT_.out) (fun _ _ _ h => h) (Or.inl ⟨by rfl, ?_⟩) ?_ ?_
           rotate_left
           ·
            intro w'
            go_simp
            with_reducible rfl
           rotate_left
           ·
            simp only [Act.put, sp]
            rfl
           refine done_ (done_of HT_.out (by kernel_rfl)) ?_
           try go_wp2
           go_meet
           case rel => exact ⟨_, (true), rs, H', ⟨by have := HK1.out; first | omega | exact Nat.le_refl _⟩, ⟨skR HO_3.out⟩, ⟨skR HO_4.out⟩, ⟨skK BK152.out⟩, ⟨skG HB.out GE152.out GE152.out⟩⟩
          ·
           rw [if_neg c17] at H
           have c17b0 : decide (64 ≤ ((J67 l0 x5_1).f0)) = false := decide_eq_false c17
           clear c17
           by_cases c20 : ((J67 l0 x5_1).f2.f0) < 1
           ·
            rw [if_pos c20] at H
            have c20b0 : decide (((J67 l0 x5_1).f2.f0) < 1) = true := decide_eq_true c20
            clear c20
            have H' := asd H
            clear H
            try go_wp2
            have n0_ : Aside0 (Kd.R Kd.bool 4 ((((((((((w12.setCell ⟨gb152, 0, none⟩ (.int .i64 ((J67 l0 x5_1).f0))).setCell ⟨gb152, 1, none⟩ (.bool ((J67 l0 x5_1).f1))).setCell ⟨gb152, 2, none⟩ (.int .i64 ((J67 l0 x5_1).f2.f0))).setCell ⟨gb152, 3, none⟩ (.int .i64 ((J67 l0 x5_1).f2.f1))).setCell ⟨gb152, 4, none⟩ (.int .i64 ((J67 l0 x5_1).f2.f2))).setCell ⟨gb152, 5, none⟩ (.int .i64 ((J67 l0 x5_1).f2.f3))).setCell ⟨gb152, 6, none⟩ (.bool ((J67 l0 x5_1).f3.f0))).setCell ⟨gb152, 7, none⟩ (.int .i64 ((J67 l0 x5_1).f3.f1))).setCell ⟨gb152, 8, none⟩ (.int .i64 ((J67 l0 x5_1).f3.f2))).setCell ⟨gb152, 9, none⟩ (.slice A151_9 ((J67 l0 x5_1).f3.f3).length c151_9)) w.heap.size (fun _ => True) v146 x3_1) := ⟨skR (Kd.R_mono (Kd.R_far (p := ⟨gb152, 9, none⟩) (Kd.R_far (p := ⟨gb152, 8, none⟩) (Kd.R_far (p := ⟨gb152, 7, none⟩) (Kd.R_far (p := ⟨gb152, 6, none⟩) (Kd.R_far (p := ⟨gb152, 5, none⟩) (Kd.R_far (p := ⟨gb152, 4, none⟩) (Kd.R_far (p := ⟨gb152, 3, none⟩) (Kd.R_far (p := ⟨gb152, 2, none⟩) (Kd.R_far (p := ⟨gb152, 1, none⟩) (Kd.R_far (p := ⟨gb152, 0, none⟩) (Kd.R_types HO_3.out BK152.out (by decide)) (fun _ hk => hk.2) (.int .i64 ((J67 l0 x5_1).f0))) (fun _ hk => hk.2) (.bool ((J67 l0 x5_1).f1))) (fun _ hk => hk.2) (.int .i64 ((J67 l0 x5_1).f2.f0))) (fun _ hk => hk.2) (.int .i64 ((J67 l0 x5_1).f2.f1))) (fun _ hk => hk.2) (.int .i64 ((J67 l0 x5_1).f2.f2))) (fun _ hk => hk.2) (.int .i64 ((J67 l0 x5_1).f2.f3))) (fun _ hk => hk.2) (.bool ((J67 l0 x5_1).f3.f0))) (fun _ hk => hk.2) (.int .i64 ((J67 l0 x5_1).f3.f1))) (fun _ hk => hk.2) (.int .i64 ((J67 l0 x5_1).f3.f2))) (fun _ hk => hk.2) (.slice A151_9 ((J67 l0 x5_1).f3.f3).length c151_9)) (fun _ hk => trivial))⟩
            have n1_ : Aside0 (Kd.R k33 33 ((((((((((w12.setCell ⟨gb152, 0, none⟩ (.int .i64 ((J67 l0 x5_1).f0))).setCell ⟨gb152, 1, none⟩ (.bool ((J67 l0 x5_1).f1))).setCell ⟨gb152, 2, none⟩ (.int .i64 ((J67 l0 x5_1).f2.f0))).setCell ⟨gb152, 3, none⟩ (.int .i64 ((J67 l0 x5_1).f2.f1))).setCell ⟨gb152, 4, none⟩ (.int .i64 ((J67 l0 x5_1).f2.f2))).setCell ⟨gb152, 5, none⟩ (.int .i64 ((J67 l0 x5_1).f2.f3))).setCell ⟨gb152, 6, none⟩ (.bool ((J67 l0 x5_1).f3.f0))).setCell ⟨gb152, 7, none⟩ (.int .i64 ((J67 l0 x5_1).f3.f1))).setCell ⟨gb152, 8, none⟩ (.int .i64 ((J67 l0 x5_1).f3.f2))).setCell ⟨gb152, 9, none⟩ (.slice A151_9 ((J67 l0 x5_1).f3.f3).length c151_9)) w.heap.size (fun _ => True) v149 x4_1) := ⟨skR (Kd.R_mono (Kd.R_far (p := ⟨gb152, 9, none⟩) (Kd.R_far (p := ⟨gb152, 8, none⟩) (Kd.R_far (p := ⟨gb152, 7, none⟩) (Kd.R_far (p := ⟨gb152, 6, none⟩) (Kd.R_far (p := ⟨gb152, 5, none⟩) (Kd.R_far (p := ⟨gb152, 4, none⟩) (Kd.R_far (p := ⟨gb152, 3, none⟩) (Kd.R_far (p := ⟨gb152, 2, none⟩) (Kd.R_far (p := ⟨gb152, 1, none⟩) (Kd.R_far (p := ⟨gb152, 0, none⟩) (Kd.R_types HO_4.out BK152.out (by decide)) (fun _ hk => hk.2) (.int .i64 ((J67 l0 x5_1).f0))) (fun _ hk => hk.2) (.bool ((J67 l0 x5_1).f1))) (fun _ hk => hk.2) (.int .i64 ((J67 l0 x5_1).f2.f0))) (fun _ hk => hk.2) (.int .i64 ((J67 l0 x5_1).f2.f1))) (fun _ hk => hk.2) (.int .i64 ((J67 l0 x5_1).f2.f2))) (fun _ hk => hk.2) (.int .i64 ((J67 l0 x5_1).f2.f3))) (fun _ hk => hk.2) (.bool ((J67 l0 x5_1).f3.f0))) (fun _ hk => hk.2) (.int .i64 ((J67 l0 x5_1).f3.f1))) (fun _ hk => hk.2) (.int .i64 ((J67 l0 x5_1).f3.f2))) (fun _ hk => hk.2) (.slice A151_9 ((J67 l0 x5_1).f3.f3).length c151_9)) (fun _ hk => trivial))⟩
            have n2_ : Aside0 (((((((((((w12.setCell ⟨gb152, 0, none⟩ (.int .i64 ((J67 l0 x5_1).f0))).setCell ⟨gb152, 1, none⟩ (.bool ((J67 l0 x5_1).f1))).setCell ⟨gb152, 2, none⟩ (.int .i64 ((J67 l0 x5_1).f2.f0))).setCell ⟨gb152, 3, none⟩ (.int .i64 ((J67 l0 x5_1).f2.f1))).setCell ⟨gb152, 4, none⟩ (.int .i64 ((J67 l0 x5_1).f2.f2))).setCell ⟨gb152, 5, none⟩ (.int .i64 ((J67 l0 x5_1).f2.f3))).setCell ⟨gb152, 6, none⟩ (.bool ((J67 l0 x5_1).f3.f0))).setCell ⟨gb152, 7, none⟩ (.int .i64 ((J67 l0 x5_1).f3.f1))).setCell ⟨gb152, 8, none⟩ (.int .i64 ((J67 l0 x5_1).f3.f2))).setCell ⟨gb152, 9, none⟩ (.slice A151_9 ((J67 l0 x5_1).f3.f3).length c151_9)).heap[gb152]? = some (.cells #[.int .i64 ((J67 l0 x5_1).f0), .bool ((J67 l0 x5_1).f1), .int .i64 ((J67 l0 x5_1).f2.f0), .int .i64 ((J67 l0 x5_1).f2.f1), .int .i64 ((J67 l0 x5_1).f2.f2), .int .i64 ((J67 l0 x5_1).f2.f3), .bool ((J67 l0 x5_1).f3.f0), .int .i64 ((J67 l0 x5_1).f3.f1), .int .i64 ((J67 l0 x5_1).f3.f2), .slice A151_9 ((J67 l0 x5_1).f3.f3).length c151_9] 67 (0, 0))) := ⟨by refine skk ?_; refine blk_put (cs := #[.int .i64 ((J67 l0 x5_1).f0), .bool ((J67 l0 x5_1).f1), .int .i64 ((J67 l0 x5_1).f2.f0), .int .i64 ((J67 l0 x5_1).f2.f1), .int .i64 ((J67 l0 x5_1).f2.f2), .int .i64 ((J67 l0 x5_1).f2.f3), .bool ((J67 l0 x5_1).f3.f0), .int .i64 ((J67 l0 x5_1).f3.f1), .int .i64 ((J67 l0 x5_1).f3.f2), .slice none 0 0]) ?_ 9 _ rfl; refine skk ?_; refine blk_put (cs := #[.int .i64 ((J67 l0 x5_1).f0), .bool ((J67 l0 x5_1).f1), .int .i64 ((J67 l0 x5_1).f2.f0), .int .i64 ((J67 l0 x5_1).f2.f1), .int .i64 ((J67 l0 x5_1).f2.f2), .int .i64 ((J67 l0 x5_1).f2.f3), .bool ((J67 l0 x5_1).f3.f0), .int .i64 ((J67 l0 x5_1).f3.f1), .int .i64 0, .slice none 0 0]) ?_ 8 _ rfl; refine skk ?_; refine blk_put (cs := #[.int .i64 ((J67 l0 x5_1).f0), .bool ((J67 l0 x5_1).f1), .int .i64 ((J67 l0 x5_1).f2.f0), .int .i64 ((J67 l0 x5_1).f2.f1), .int .i64 ((J67 l0 x5_1).f2.f2), .int .i64 ((J67 l0 x5_1).f2.f3), .bool ((J67 l0 x5_1).f3.f0), .int .i64 0, .int .i64 0, .slice none 0 0]) ?_ 7 _ rfl; refine skk ?_; refine blk_put (cs := #[.int .i64 ((J67 l0 x5_1).f0), .bool ((J67 l0 x5_1).f1), .int .i64 ((J67 l0 x5_1).f2.f0), .int .i64 ((J67 l0 x5_1).f2.f1), .int .i64 ((J67 l0 x5_1).f2.f2), .int .i64 ((J67 l0 x5_1).f2.f3), .bool false, .int .i64 0, .int .i64 0, .slice none 0 0]) ?_ 6 _ rfl; refine skk ?_; refine blk_put (cs := #[.int .i64 ((J67 l0 x5_1).f0), .bool ((J67 l0 x5_1).f1), .int .i64 ((J67 l0 x5_1).f2.f0), .int .i64 ((J67 l0 x5_1).f2.f1), .int .i64 ((J67 l0 x5_1).f2.f2), .int .i64 0, .bool false, .int .i64 0, .int .i64 0, .slice none 0 0]) ?_ 5 _ rfl; refine skk ?_; refine blk_put (cs := #[.int .i64 ((J67 l0 x5_1).f0), .bool ((J67 l0 x5_1).f1), .int .i64 ((J67 l0 x5_1).f2.f0), .int .i64 ((J67 l0 x5_1).f2.f1), .int .i64 0, .int .i64 0, .bool false, .int .i64 0, .int .i64 0, .slice none 0 0]) ?_ 4 _ rfl; refine skk ?_; refine blk_put (cs := #[.int .i64 ((J67 l0 x5_1).f0), .bool ((J67 l0 x5_1).f1), .int .i64 ((J67 l0 x5_1).f2.f0), .int .i64 0, .int .i64 0, .int .i64 0, .bool false, .int .i64 0, .int .i64 0, .slice none 0 0]) ?_ 3 _ rfl; refine skk ?_; refine blk_put (cs := #[.int .i64 ((J67 l0 x5_1).f0), .bool ((J67 l0 x5_1).f1), .int .i64 0, .int .i64 0, .int .i64 0, .int .i64 0, .bool false, .int .i64 0, .int .i64 0, .slice none 0 0]) ?_ 2 _ rfl; refine skk ?_; refine blk_put (cs := #[.int .i64 ((J67 l0 x5_1).f0), .bool false, .int .i64 0, .int .i64 0, .int .i64 0, .int .i64 0, .bool false, .int .i64 0, .int .i64 0, .slice none 0 0]) ?_ 1 _ rfl; refine skk ?_; refine blk_put (cs := #[.int .i64 0, .bool false, .int .i64 0, .int .i64 0, .int .i64 0, .int .i64 0, .bool false, .int .i64 0, .int .i64 0, .slice none 0 0]) ?_ 0 _ rfl; refine skk ?_; exact BK152.out⟩
            have n3_ : Aside0 (Below w.heap.size w ((((((((((w12.setCell ⟨gb152, 0, none⟩ (.int .i64 ((J67 l0 x5_1).f0))).setCell ⟨gb152, 1, none⟩ (.bool ((J67 l0 x5_1).f1))).setCell ⟨gb152, 2, none⟩ (.int .i64 ((J67 l0 x5_1).f2.f0))).setCell ⟨gb152, 3, none⟩ (.int .i64 ((J67 l0 x5_1).f2.f1))).setCell ⟨gb152, 4, none⟩ (.int .i64 ((J67 l0 x5_1).f2.f2))).setCell ⟨gb152, 5, none⟩ (.int .i64 ((J67 l0 x5_1).f2.f3))).setCell ⟨gb152, 6, none⟩ (.bool ((J67 l0 x5_1).f3.f0))).setCell ⟨gb152, 7, none⟩ (.int .i64 ((J67 l0 x5_1).f3.f1))).setCell ⟨gb152, 8, none⟩ (.int .i64 ((J67 l0 x5_1).f3.f2))).setCell ⟨gb152, 9, none⟩ (.slice A151_9 ((J67 l0 x5_1).f3.f3).length c151_9))) := ⟨skG HB.out GE152.out GE152.out⟩
            (try clear HO_3)
            (try clear HO_4)
            (try clear BK152)
            (try clear HB)
            generalize ((((((((((w12.setCell ⟨gb152, 0, none⟩ (.int .i64 ((J67 l0 x5_1).f0))).setCell ⟨gb152, 1, none⟩ (.bool ((J67 l0 x5_1).f1))).setCell ⟨gb152, 2, none⟩ (.int .i64 ((J67 l0 x5_1).f2.f0))).setCell ⟨gb152, 3, none⟩ (.int .i64 ((J67 l0 x5_1).f2.f1))).setCell ⟨gb152, 4, none⟩ (.int .i64 ((J67 l0 x5_1).f2.f2))).setCell ⟨gb152, 5, none⟩ (.int .i64 ((J67 l0 x5_1).f2.f3))).setCell ⟨gb152, 6, none⟩ (.bool ((J67 l0 x5_1).f3.f0))).setCell ⟨gb152, 7, none⟩ (.int .i64 ((J67 l0 x5_1).f3.f1))).setCell ⟨gb152, 8, none⟩ (.int .i64 ((J67 l0 x5_1).f3.f2))).setCell ⟨gb152, 9, none⟩ (.slice A151_9 ((J67 l0 x5_1).f3.f3).length c151_9)) = w21 at n0_ n1_ n2_ n3_ ⊢
            have HO_3 := n0_
            have HO_4 := n1_
            have BK152 := n2_
            have HB := n3_
            clear n0_ n1_ n2_ n3_
            have n0_ := asd (Kd.R_drew HO_3.out)
            have n1_ := asd (Kd.R_drew HO_4.out)
            have n2_ := asd (blk_drew BK152.out)
            have n3_ := asd (below_drew1 HB.out)
            clear HO_3
            clear HO_4
            clear BK152
            clear HB
            have HO_3 := n0_
            have HO_4 := n1_
            have BK152 := n2_
            have HB := n3_
            clear n0_ n1_ n2_ n3_
            refine start_ (n := 30) (S := fun w' => w'.cell? ⟨gb152, 0, none⟩ = some (.int .i64 ((J67 l0 x5_1).f0)) ∧ w'.cell? ⟨gb152, 1, none⟩ = some (.bool ((J67 l0 x5_1).f1)) ∧ w'.cell? ⟨gb152, 2, none⟩ = some (.int .i64 ((J67 l0 x5_1).f2.f0)) ∧ w'.cell? ⟨gb152, 3, none⟩ = some (.int .i64 ((J67 l0 x5_1).f2.f1)) ∧ w'.cell? ⟨gb152, 4, none⟩ = some (.int .i64 ((J67 l0 x5_1).f2.f2)) ∧ w'.cell? ⟨gb152, 5, none⟩ = some (.int .i64 ((J67 l0 x5_1).f2.f3)) ∧ w'.cell? ⟨gb152, 6, none⟩ = some (.bool ((J67 l0 x5_1).f3.f0)) ∧ w'.cell? ⟨gb152, 7, none⟩ = some (.int .i64 ((J67 l0 x5_1).f3.f1)) ∧ w'.cell? ⟨gb152, 8, none⟩ = some (.int .i64 ((J67 l0 x5_1).f3.f2)) ∧ w'.cell? ⟨gb152, 9, none⟩ = some (.slice A151_9 ((J67 l0 x5_1).f3.f3).length c151_9)) (ds := []) #[false,false,false,false,false,false,false,false,false,false,false,false,false,false,false,false,false,false,false,false,false,false,false,false,false,false,false,false,false,false] (by kernel_rfl) rfl rfl ⟨(blk_cell BK152.out 0).trans rfl, (blk_cell BK152.out 1).trans rfl, (blk_cell BK152.out 2).trans rfl, (blk_cell BK152.out 3).trans rfl, (blk_cell BK152.out 4).trans rfl, (blk_cell BK152.out 5).trans rfl, (blk_cell BK152.out 6).trans rfl, (blk_cell BK152.out 7).trans rfl, (blk_cell BK152.out 8).trans rfl, (blk_cell BK152.out 9).trans rfl⟩ (fun hHeld => ?_); refine with_tabW larchref05_Check.tab9 larchref05_Check.bits9 (fun HT_ HW_ => ?_)
            generalize w21.drew = w22 at HO_3 HO_4 BK152 HB hHeld ⊢
            refine pure_ (i := 0) (N := some 22) (v := ?_) (a' := ?_) #[true,false,false,false,false,false,false,false,false,false,false,false,false,false,false,false,false,false,false,false,false,false,false,false,false,false,false,false,false,false] rfl rfl (aK HT_.out) (fun _ _ _ h => h) (Or.inl ⟨by rfl, ?_⟩) ?_ ?_
            rotate_left
            ·
             intro w'
             go_simp
             with_reducible rfl
            rotate_left
            ·
             simp only [Act.put, sp]
             rfl
            refine take_ (i := 1) (N := some 23) (v := ?_) (a' := ?_) #[true,true,false,false,false,false,false,false,false,false,false,false,false,false,false,false,false,false,false,false,false,false,false,false,false,false,false,false,false,false] rfl rfl (take_ofW HT_.out HW_.out (by kernel_rfl)) (fun _ _ _ h => h) (Or.inl ⟨by rfl, ?_⟩) hHeld ?_ ?_
            rotate_left
            ·
             rintro w' ⟨s0, s1, s2, s3, s4, s5, s6, s7, s8, s9⟩
             go_simp
             with_reducible rfl
            rotate_left
            ·
             simp only [Act.put, sp]
             rfl
            refine pure_ (i := 2) (N := some 24) (v := ?_) (a' := ?_) #[true,true,true,false,false,false,false,false,false,false,false,false,false,false,false,false,false,false,false,false,false,false,false,false,false,false,false,false,false,false] rfl rfl (aK HT_.out) (fun _ _ _ h => h) (Or.inl ⟨by rfl, ?_⟩) ?_ ?_
            rotate_left
            ·
             intro w'
             go_simp
             with_reducible rfl
            rotate_left
            ·
             simp only [Act.put, sp]
             rfl
            refine pure_ (i := 3) (N := some 25) (v := ?_) (a' := ?_) #[true,true,true,true,false,false,false,false,false,false,false,false,false,false,false,false,false,false,false,false,false,false,false,false,false,false,false,false,false,false] rfl rfl (aK HT_.out) (fun _ _ _ h => h) (Or.inl ⟨by rfl, ?_⟩) ?_ ?_
            rotate_left
            ·
             intro w'
             go_simp
             with_reducible rfl
            rotate_left
            ·
             simp only [Act.put, sp]
             rfl
            refine pure_ (i := 4) (N := some 26) (v := ?_) (a' := ?_) #[true,true,true,true,true,false,false,false,false,false,false,false,false,false,false,false,false,false,false,false,false,false,false,false,false,false,false,false,false,false] rfl rfl (aK HT_.out) (fun _ _ _ h => h) (Or.inl ⟨by rfl, ?_⟩) ?_ ?_
            rotate_left
            ·
             intro w'
             go_simp
             with_reducible rfl
            rotate_left
            ·
             simp only [Act.put, sp]
             rfl
            refine take_ (i := 5) (N := some 27) (v := ?_) (a' := ?_) #[true,true,true,true,true,true,false,false,false,false,false,false,false,false,false,false,false,false,false,false,false,false,false,false,false,false,false,false,false,false] rfl rfl (take_ofW HT_.out HW_.out (by kernel_rfl)) (fun _ _ _ h => h) (Or.inl ⟨by rfl, ?_⟩) hHeld ?_ ?_
            rotate_left
            ·
             rintro w' ⟨s0, s1, s2, s3, s4, s5, s6, s7, s8, s9⟩
             go_simp
             with_reducible rfl
            rotate_left
            ·
             simp only [Act.put, sp]
             rfl
            refine pure_ (i := 6) (N := some 28) (v := ?_) (a' := ?_) #[true,true,true,true,true,true,true,false,false,false,false,false,false,false,false,false,false,false,false,false,false,false,false,false,false,false,false,false,false,false] rfl rfl (aK HT_.out) (fun _ _ _ h => h) (Or.inl ⟨by rfl, ?_⟩) ?_ ?_
            rotate_left
            ·
             intro w'
             go_simp
             with_reducible rfl
            rotate_left
            ·
             simp only [Act.put, sp]
             rfl
            refine pure_ (i := 7) (N := some 29) (v := ?_) (a' := ?_) #[true,true,true,true,true,true,true,true,false,false,false,false,false,false,false,false,false,false,false,false,false,false,false,false,false,false,false,false,false,false] rfl rfl (aK HT_.out) (fun _ _ _ h => h) (Or.inl ⟨by rfl, ?_⟩) ?_ ?_
            rotate_left
            ·
             intro w'
             go_simp
             with_reducible rfl
            rotate_left
            ·
             simp only [Act.put, sp]
             rfl
            refine pure_ (i := 8) (N := some 30) (v := ?_) (a' := ?_) #[true,true,true,true,true,true,true,true,true,false,false,false,false,false,false,false,false,false,false,false,false,false,false,false,false,false,false,false,false,false] rfl rfl (aK HT_.out) (fun _ _ _ h => h) (Or.inl ⟨by rfl, ?_⟩) ?_ ?_
            rotate_left
            ·
             intro w'
             go_simp
             with_reducible rfl
            rotate_left
            ·
             simp only [Act.put, sp]
             rfl
            refine pure_ (i := 9) (N := some 31) (v := ?_) (a' := ?_) #[true,true,true,true,true,true,true,true,true,true,false,false,false,false,false,false,false,false,false,false,false,false,false,false,false,false,false,false,false,false] rfl rfl (aK HT_.out) (fun _ _ _ h => h) (Or.inl ⟨by rfl, ?_⟩) ?_ ?_
            rotate_left
            ·
             intro w'
             go_simp
             with_reducible rfl
            rotate_left
            ·
             simp only [Act.put, sp]
             rfl
            refine pure_ (i := 10) (N := some 32) (v := ?_) (a' := ?_) #[true,true,true,true,true,true,true,true,true,true,true,false,false,false,false,false,false,false,false,false,false,false,false,false,false,false,false,false,false,false] rfl rfl (aK HT_.out) (fun _ _ _ h => h) (Or.inl ⟨by rfl, ?_⟩) ?_ ?_
            rotate_left
            ·
             intro w'
             go_simp
             with_reducible rfl
            rotate_left
            ·
             simp only [Act.put, sp]
             rfl
            refine take_ (i := 11) (N := some 33) (v := ?_) (a' := ?_) #[true,true,true,true,true,true,true,true,true,true,true,true,false,false,false,false,false,false,false,false,false,false,false,false,false,false,false,false,false,false] rfl rfl (take_ofW HT_.out HW_.out (by kernel_rfl)) (fun _ _ _ h => h) (Or.inl ⟨by rfl, ?_⟩) hHeld ?_ ?_
            rotate_left
            ·
             rintro w' ⟨s0, s1, s2, s3, s4, s5, s6, s7, s8, s9⟩
             go_simp
             with_reducible rfl
            rotate_left
            ·
             simp only [Act.put, sp]
             rfl
            refine pure_ (i := 12) (N := some 34) (v := ?_) (a' := ?_) #[true,true,true,true,true,true,true,true,true,true,true,true,true,false,false,false,false,false,false,false,false,false,false,false,false,false,false,false,false,false] rfl rfl (aK HT_.out) (fun _ _ _ h => h) (Or.inl ⟨by rfl, ?_⟩) ?_ ?_
            rotate_left
            ·
             intro w'
             go_simp
             with_reducible rfl
            rotate_left
            ·
             simp only [Act.put, sp]
             rfl
            refine pure_ (i := 13) (N := some 35) (v := ?_) (a' := ?_) #[true,true,true,true,true,true,true,true,true,true,true,true,true,true,false,false,false,false,false,false,false,false,false,false,false,false,false,false,false,false] rfl rfl (aK HT_.out) (fun _ _ _ h => h) (Or.inl ⟨by rfl, ?_⟩) ?_ ?_
            rotate_left
            ·
             intro w'
             go_simp
             with_reducible rfl
            rotate_left
            ·
             simp only [Act.put, sp]
             rfl
            refine pure_ (i := 14) (N := some 36) (v := ?_) (a' := ?_) #[true,true,true,true,true,true,true,true,true,true,true,true,true,true,true,false,false,false,false,false,false,false,false,false,false,false,false,false,false,false] rfl rfl (aK HT_.out) (fun _ _ _ h => h) (Or.inl ⟨by rfl, ?_⟩) ?_ ?_
            rotate_left
            ·
             intro w'
             go_simp
             with_reducible rfl
            rotate_left
            ·
             simp only [Act.put, sp]
             rfl
            refine pure_ (i := 15) (N := some 37) (v := undef) (a' := ?_) #[true,true,true,true,true,true,true,true,true,true,true,true,true,true,true,true,false,false,false,false,false,false,false,false,false,false,false,false,false,false] rfl rfl (aK HT_.out) (fun _ _ _ h => h) (Or.inr ⟨by rfl, rfl⟩) ?_ ?_
            rotate_left
            ·
             simp only [Act.put, sp]
             rfl
            refine pure_ (i := 16) (N := some 38) (v := undef) (a' := ?_) #[true,true,true,true,true,true,true,true,true,true,true,true,true,true,true,true,true,false,false,false,false,false,false,false,false,false,false,false,false,false] rfl rfl (aK HT_.out) (fun _ _ _ h => h) (Or.inr ⟨by rfl, rfl⟩) ?_ ?_
            rotate_left
            ·
             simp only [Act.put, sp]
             rfl
            refine pure_ (i := 17) (N := some 39) (v := undef) (a' := ?_) #[true,true,true,true,true,true,true,true,true,true,true,true,true,true,true,true,true,true,false,false,false,false,false,false,false,false,false,false,false,false] rfl rfl (aK HT_.out) (fun _ _ _ h => h) (Or.inr ⟨by rfl, rfl⟩) ?_ ?_
            rotate_left
            ·
             simp only [Act.put, sp]
             rfl
            refine pure_ (i := 18) (N := some 40) (v := undef) (a' := ?_) #[true,true,true,true,true,true,true,true,true,true,true,true,true,true,true,true,true,true,true,false,false,false,false,false,false,false,false,false,false,false] rfl rfl (aK HT_.out) (fun _ _ _ h => h) (Or.inr ⟨by rfl, rfl⟩) ?_ ?_
            rotate_left
            ·
             simp only [Act.put, sp]
             rfl
            refine pure_ (i := 19) (N := some 41) (v := ?_) (a' := ?_) #[true,true,true,true,true,true,true,true,true,true,true,true,true,true,true,true,true,true,true,true,false,false,false,false,false,false,false,false,false,false] rfl rfl (aK HT_.out) (fun _ _ _ h => h) (Or.inl ⟨by rfl, ?_⟩) ?_ ?_
            rotate_left
            ·
             intro w'
             go_simp
             with_reducible rfl
            rotate_left
            ·
             simp only [Act.put, sp]
             rfl
            refine pure_ (i := 20) (N := some 42) (v := ?_) (a' := ?_) #[true,true,true,true,true,true,true,true,true,true,true,true,true,true,true,true,true,true,true,true,true,false,false,false,false,false,false,false,false,false] rfl rfl (aK HT_.out) (fun _ _ _ h => h) (Or.inl ⟨by rfl, ?_⟩) ?_ ?_
            rotate_left
            ·
             intro w'
             go_simp
             with_reducible rfl
            rotate_left
            ·
             simp only [Act.put, sp]
             rfl
            refine pure_ (i := 21) (N := some 43) (v := undef) (a' := ?_) #[true,true,true,true,true,true,true,true,true,true,true,true,true,true,true,true,true,true,true,true,true,true,false,false,false,false,false,false,false,false] rfl rfl (aK HT_.out) (fun _ _ _ h => h) (Or.inr ⟨by rfl, rfl⟩) ?_ ?_
            rotate_left
            ·
             simp only [Act.put, sp]
             rfl
            refine pure_ (i := 22) (N := some 44) (v := undef) (a' := ?_) #[true,true,true,true,true,true,true,true,true,true,true,true,true,true,true,true,true,true,true,true,true,true,true,false,false,false,false,false,false,false] rfl rfl (aK HT_.out) (fun _ _ _ h => h) (Or.inr ⟨by rfl, rfl⟩) ?_ ?_
            rotate_left
            ·
             simp only [Act.put, sp]
             rfl
            refine pure_ (i := 23) (N := some 45) (v := undef) (a' := ?_) #[true,true,true,true,true,true,true,true,true,true,true,true,true,true,true,true,true,true,true,true,true,true,true,true,false,false,false,false,false,false] rfl rfl (aK HT_.out) (fun _ _ _ h => h) (Or.inr ⟨by rfl, rfl⟩) ?_ ?_
            rotate_left
            ·
             simp only [Act.put, sp]
             rfl
            refine pure_ (i := 24) (N := some 46) (v := undef) (a' := ?_) #[true,true,true,true,true,true,true,true,true,true,true,true,true,true,true,true,true,true,true,true,true,true,true,true,true,false,false,false,false,false] rfl rfl (aK HT_.out) (fun _ _ _ h => h) (Or.inr ⟨by rfl, rfl⟩) ?_ ?_
            rotate_left
            ·
             simp only [Act.put, sp]
             rfl
            refine pure_ (i := 25) (N := some 47) (v := undef) (a' := ?_) #[true,true,true,true,true,true,true,true,true,true,true,true,true,true,true,true,true,true,true,true,true,true,true,true,true,true,false,false,false,false] rfl rfl (aK HT_.out) (fun _ _ _ h => h) (Or.inr ⟨by rfl, rfl⟩) ?_ ?_
            rotate_left
            ·
             simp only [Act.put, sp]
             rfl
            refine pure_ (i := 26) (N := some 48) (v := undef) (a' := ?_) #[true,true,true,true,true,true,true,true,true,true,true,true,true,true,true,true,true,true,true,true,true,true,true,true,true,true,true,false,false,false] rfl rfl (aK HT_.out) (fun _ _ _ h => h) (Or.inr ⟨by rfl, rfl⟩) ?_ ?_
            rotate_left
            ·
             simp only [Act.put, sp]
             rfl
            refine pure_ (i := 27) (N := some 49) (v := undef) (a' := ?_) #[true,true,true,true,true,true,true,true,true,true,true,true,true,true,true,true,true,true,true,true,true,true,true,true,true,true,true,true,false,false] rfl rfl (aK HT_.out) (fun _ _ _ h => h) (Or.inr ⟨by rfl, rfl⟩) ?_ ?_
            rotate_left
            ·
             simp only [Act.put, sp]
             rfl
            refine pure_ (i := 28) (N := some 50) (v := undef) (a' := ?_) #[true,true,true,true,true,true,true,true,true,true,true,true,true,true,true,true,true,true,true,true,true,true,true,true,true,true,true,true,true,false] rfl rfl (aK HT_.out) (fun _ _ _ h => h) (Or.inr ⟨by rfl, rfl⟩) ?_ ?_
            rotate_left
            ·
             simp only [Act.put, sp]
             rfl
            refine pure_ (i := 29) (N := some 51) (v := ?_) (a' := ?_) #[true,true,true,true,true,true,true,true,true,true,true,true,true,true,true,true,true,true,true,true,true,true,true,true,true,true,true,true,true,true] rfl rfl (aK HT_.out) (fun _ _ _ h => h) (Or.inl ⟨by rfl, ?_⟩) ?_ ?_
            rotate_left
            ·
             intro w'
             go_simp
             with_reducible rfl
            rotate_left
            ·
             simp only [Act.put, sp]
             rfl
            refine done_ (done_of HT_.out (by kernel_rfl)) ?_
            try go_wp2
            go_meet
            case rel => exact ⟨_, (true), rs, H', ⟨by have := HK1.out; first | omega | exact Nat.le_refl _⟩, ⟨skR HO_3.out⟩, ⟨skR HO_4.out⟩, ⟨skK BK152.out⟩, ⟨skG HB.out GE152.out GE152.out⟩⟩
           ·
            rw [if_neg c20] at H
            have c20b0 : decide (((J67 l0 x5_1).f2.f0) < 1) = false := decide_eq_false c20
            clear c20
            by_cases c23 : ((J67 l0 x5_1).f2.f0) > 9
            ·
             rw [if_pos c23] at H
             have c23b0 : decide (9 < ((J67 l0 x5_1).f2.f0)) = true := decide_eq_true c23
             clear c23
             have H' := asd H
             clear H
             try go_wp2
             have n0_ : Aside0 (Kd.R Kd.bool 4 ((((((((((w12.setCell ⟨gb152, 0, none⟩ (.int .i64 ((J67 l0 x5_1).f0))).setCell ⟨gb152, 1, none⟩ (.bool ((J67 l0 x5_1).f1))).setCell ⟨gb152, 2, none⟩ (.int .i64 ((J67 l0 x5_1).f2.f0))).setCell ⟨gb152, 3, none⟩ (.int .i64 ((J67 l0 x5_1).f2.f1))).setCell ⟨gb152, 4, none⟩ (.int .i64 ((J67 l0 x5_1).f2.f2))).setCell ⟨gb152, 5, none⟩ (.int .i64 ((J67 l0 x5_1).f2.f3))).setCell ⟨gb152, 6, none⟩ (.bool ((J67 l0 x5_1).f3.f0))).setCell ⟨gb152, 7, none⟩ (.int .i64 ((J67 l0 x5_1).f3.f1))).setCell ⟨gb152, 8, none⟩ (.int .i64 ((J67 l0 x5_1).f3.f2))).setCell ⟨gb152, 9, none⟩ (.slice A151_9 ((J67 l0 x5_1).f3.f3).length c151_9)) w.heap.size (fun _ => True) v146 x3_1) := ⟨skR (Kd.R_mono (Kd.R_far (p := ⟨gb152, 9, none⟩) (Kd.R_far (p := ⟨gb152, 8, none⟩) (Kd.R_far (p := ⟨gb152, 7, none⟩) (Kd.R_far (p := ⟨gb152, 6, none⟩) (Kd.R_far (p := ⟨gb152, 5, none⟩) (Kd.R_far (p := ⟨gb152, 4, none⟩) (Kd.R_far (p := ⟨gb152, 3, none⟩) (Kd.R_far (p := ⟨gb152, 2, none⟩) (Kd.R_far (p := ⟨gb152, 1, none⟩) (Kd.R_far (p := ⟨gb152, 0, none⟩) (Kd.R_types HO_3.out BK152.out (by decide)) (fun _ hk => hk.2) (.int .i64 ((J67 l0 x5_1).f0))) (fun _ hk => hk.2) (.bool ((J67 l0 x5_1).f1))) (fun _ hk => hk.2) (.int .i64 ((J67 l0 x5_1).f2.f0))) (fun _ hk => hk.2) (.int .i64 ((J67 l0 x5_1).f2.f1))) (fun _ hk => hk.2) (.int .i64 ((J67 l0 x5_1).f2.f2))) (fun _ hk => hk.2) (.int .i64 ((J67 l0 x5_1).f2.f3))) (fun _ hk => hk.2) (.bool ((J67 l0 x5_1).f3.f0))) (fun _ hk => hk.2) (.int .i64 ((J67 l0 x5_1).f3.f1))) (fun _ hk => hk.2) (.int .i64 ((J67 l0 x5_1).f3.f2))) (fun _ hk => hk.2) (.slice A151_9 ((J67 l0 x5_1).f3.f3).length c151_9)) (fun _ hk => trivial))⟩
             have n1_ : Aside0 (Kd.R k33 33 ((((((((((w12.setCell ⟨gb152, 0, none⟩ (.int .i64 ((J67 l0 x5_1).f0))).setCell ⟨gb152, 1, none⟩ (.bool ((J67 l0 x5_1).f1))).setCell ⟨gb152, 2, none⟩ (.int .i64 ((J67 l0 x5_1).f2.f0))).setCell ⟨gb152, 3, none⟩ (.int .i64 ((J67 l0 x5_1).f2.f1))).setCell ⟨gb152, 4, none⟩ (.int .i64 ((J67 l0 x5_1).f2.f2))).setCell ⟨gb152, 5, none⟩ (.int .i64 ((J67 l0 x5_1).f2.f3))).setCell ⟨gb152, 6, none⟩ (.bool ((J67 l0 x5_1).f3.f0))).setCell ⟨gb152, 7, none⟩ (.int .i64 ((J67 l0 x5_1).f3.f1))).setCell ⟨gb152, 8, none⟩ (.int .i64 ((J67 l0 x5_1).f3.f2))).setCell ⟨gb152, 9, none⟩ (.slice A151_9 ((J67 l0 x5_1).f3.f3).length c151_9)) w.heap.size (fun _ => True) v149 x4_1) := ⟨skR (Kd.R_mono (Kd.R_far (p := ⟨gb152, 9, none⟩) (Kd.R_far (p := ⟨gb152, 8, none⟩) (Kd.R_far (p := ⟨gb152, 7, none⟩) (Kd.R_far (p := ⟨gb152, 6, none⟩) (Kd.R_far (p := ⟨gb152, 5, none⟩) (Kd.R_far (p := ⟨gb152, 4, none⟩) (Kd.R_far (p := ⟨gb152, 3, none⟩) (Kd.R_far (p := ⟨gb152, 2, none⟩) (Kd.R_far (p := ⟨gb152, 1, none⟩) (Kd.R_far (p := ⟨gb152, 0, none⟩) (Kd.R_types HO_4.out BK152.out (by decide)) (fun _ hk => hk.2) (.int .i64 ((J67 l0 x5_1).f0))) (fun _ hk => hk.2) (.bool ((J67 l0 x5_1).f1))) (fun _ hk => hk.2) (.int .i64 ((J67 l0 x5_1).f2.f0))) (fun _ hk => hk.2) (.int .i64 ((J67 l0 x5_1).f2.f1))) (fun _ hk => hk.2) (.int .i64 ((J67 l0 x5_1).f2.f2))) (fun _ hk => hk.2) (.int .i64 ((J67 l0 x5_1).f2.f3))) (fun _ hk => hk.2) (.bool ((J67 l0 x5_1).f3.f0))) (fun _ hk => hk.2) (.int .i64 ((J67 l0 x5_1).f3.f1))) (fun _ hk => hk.2) (.int .i64 ((J67 l0 x5_1).f3.f2))) (fun _ hk => hk.2) (.slice A151_9 ((J67 l0 x5_1).f3.f3).length c151_9)) (fun _ hk => trivial))⟩
             have n2_ : Aside0 (((((((((((w12.setCell ⟨gb152, 0, none⟩ (.int .i64 ((J67 l0 x5_1).f0))).setCell ⟨gb152, 1, none⟩ (.bool ((J67 l0 x5_1).f1))).setCell ⟨gb152, 2, none⟩ (.int .i64 ((J67 l0 x5_1).f2.f0))).setCell ⟨gb152, 3, none⟩ (.int .i64 ((J67 l0 x5_1).f2.f1))).setCell ⟨gb152, 4, none⟩ (.int .i64 ((J67 l0 x5_1).f2.f2))).setCell ⟨gb152, 5, none⟩ (.int .i64 ((J67 l0 x5_1).f2.f3))).setCell ⟨gb152, 6, none⟩ (.bool ((J67 l0 x5_1).f3.f0))).setCell ⟨gb152, 7, none⟩ (.int .i64 ((J67 l0 x5_1).f3.f1))).setCell ⟨gb152, 8, none⟩ (.int .i64 ((J67 l0 x5_1).f3.f2))).setCell ⟨gb152, 9, none⟩ (.slice A151_9 ((J67 l0 x5_1).f3.f3).length c151_9)).heap[gb152]? = some (.cells #[.int .i64 ((J67 l0 x5_1).f0), .bool ((J67 l0 x5_1).f1), .int .i64 ((J67 l0 x5_1).f2.f0), .int .i64 ((J67 l0 x5_1).f2.f1), .int .i64 ((J67 l0 x5_1).f2.f2), .int .i64 ((J67 l0 x5_1).f2.f3), .bool ((J67 l0 x5_1).f3.f0), .int .i64 ((J67 l0 x5_1).f3.f1), .int .i64 ((J67 l0 x5_1).f3.f2), .slice A151_9 ((J67 l0 x5_1).f3.f3).length c151_9] 67 (0, 0))) := ⟨by refine skk ?_; refine blk_put (cs := #[.int .i64 ((J67 l0 x5_1).f0), .bool ((J67 l0 x5_1).f1), .int .i64 ((J67 l0 x5_1).f2.f0), .int .i64 ((J67 l0 x5_1).f2.f1), .int .i64 ((J67 l0 x5_1).f2.f2), .int .i64 ((J67 l0 x5_1).f2.f3), .bool ((J67 l0 x5_1).f3.f0), .int .i64 ((J67 l0 x5_1).f3.f1), .int .i64 ((J67 l0 x5_1).f3.f2), .slice none 0 0]) ?_ 9 _ rfl; refine skk ?_; refine blk_put (cs := #[.int .i64 ((J67 l0 x5_1).f0), .bool ((J67 l0 x5_1).f1), .int .i64 ((J67 l0 x5_1).f2.f0), .int .i64 ((J67 l0 x5_1).f2.f1), .int .i64 ((J67 l0 x5_1).f2.f2), .int .i64 ((J67 l0 x5_1).f2.f3), .bool ((J67 l0 x5_1).f3.f0), .int .i64 ((J67 l0 x5_1).f3.f1), .int .i64 0, .slice none 0 0]) ?_ 8 _ rfl; refine skk ?_; refine blk_put (cs := #[.int .i64 ((J67 l0 x5_1).f0), .bool ((J67 l0 x5_1).f1), .int .i64 ((J67 l0 x5_1).f2.f0), .int .i64 ((J67 l0 x5_1).f2.f1), .int .i64 ((J67 l0 x5_1).f2.f2), .int .i64 ((J67 l0 x5_1).f2.f3), .bool ((J67 l0 x5_1).f3.f0), .int .i64 0, .int .i64 0, .slice none 0 0]) ?_ 7 _ rfl; refine skk ?_; refine blk_put (cs := #[.int .i64 ((J67 l0 x5_1).f0), .bool ((J67 l0 x5_1).f1), .int .i64 ((J67 l0 x5_1).f2.f0), .int .i64 ((J67 l0 x5_1).f2.f1), .int .i64 ((J67 l0 x5_1).f2.f2), .int .i64 ((J67 l0 x5_1).f2.f3), .bool false, .int .i64 0, .int .i64 0, .slice none 0 0]) ?_ 6 _ rfl; refine skk ?_; refine blk_put (cs := #[.int .i64 ((J67 l0 x5_1).f0), .bool ((J67 l0 x5_1).f1), .int .i64 ((J67 l0 x5_1).f2.f0), .int .i64 ((J67 l0 x5_1).f2.f1), .int .i64 ((J67 l0 x5_1).f2.f2), .int .i64 0, .bool false, .int .i64 0, .int .i64 0, .slice none 0 0]) ?_ 5 _ rfl; refine skk ?_; refine blk_put (cs := #[.int .i64 ((J67 l0 x5_1).f0), .bool ((J67 l0 x5_1).f1), .int .i64 ((J67 l0 x5_1).f2.f0), .int .i64 ((J67 l0 x5_1).f2.f1), .int .i64 0, .int .i64 0, .bool false, .int .i64 0, .int .i64 0, .slice none 0 0]) ?_ 4 _ rfl; refine skk ?_; refine blk_put (cs := #[.int .i64 ((J67 l0 x5_1).f0), .bool ((J67 l0 x5_1).f1), .int .i64 ((J67 l0 x5_1).f2.f0), .int .i64 0, .int .i64 0, .int .i64 0, .bool false, .int .i64 0, .int .i64 0, .slice none 0 0]) ?_ 3 _ rfl; refine skk ?_; refine blk_put (cs := #[.int .i64 ((J67 l0 x5_1).f0), .bool ((J67 l0 x5_1).f1), .int .i64 0, .int .i64 0, .int .i64 0, .int .i64 0, .bool false, .int .i64 0, .int .i64 0, .slice none 0 0]) ?_ 2 _ rfl; refine skk ?_; refine blk_put (cs := #[.int .i64 ((J67 l0 x5_1).f0), .bool false, .int .i64 0, .int .i64 0, .int .i64 0, .int .i64 0, .bool false, .int .i64 0, .int .i64 0, .slice none 0 0]) ?_ 1 _ rfl; refine skk ?_; refine blk_put (cs := #[.int .i64 0, .bool false, .int .i64 0, .int .i64 0, .int .i64 0, .int .i64 0, .bool false, .int .i64 0, .int .i64 0, .slice none 0 0]) ?_ 0 _ rfl; refine skk ?_; exact BK152.out⟩
             have n3_ : Aside0 (Below w.heap.size w ((((((((((w12.setCell ⟨gb152, 0, none⟩ (.int .i64 ((J67 l0 x5_1).f0))).setCell ⟨gb152, 1, none⟩ (.bool ((J67 l0 x5_1).f1))).setCell ⟨gb152, 2, none⟩ (.int .i64 ((J67 l0 x5_1).f2.f0))).setCell ⟨gb152, 3, none⟩ (.int .i64 ((J67 l0 x5_1).f2.f1))).setCell ⟨gb152, 4, none⟩ (.int .i64 ((J67 l0 x5_1).f2.f2))).setCell ⟨gb152, 5, none⟩ (.int .i64 ((J67 l0 x5_1).f2.f3))).setCell ⟨gb152, 6, none⟩ (.bool ((J67 l0 x5_1).f3.f0))).setCell ⟨gb152, 7, none⟩ (.int .i64 ((J67 l0 x5_1).f3.f1))).setCell ⟨gb152, 8, none⟩ (.int .i64 ((J67 l0 x5_1).f3.f2))).setCell ⟨gb152, 9, none⟩ (.slice A151_9 ((J67 l0 x5_1).f3.f3).length c151_9))) := ⟨skG HB.out GE152.out GE152.out⟩
             (try clear HO_3)
             (try clear HO_4)
             (try clear BK152)
             (try clear HB)
             generalize ((((((((((w12.setCell ⟨gb152, 0, none⟩ (.int .i64 ((J67 l0 x5_1).f0))).setCell ⟨gb152, 1, none⟩ (.bool ((J67 l0 x5_1).f1))).setCell ⟨gb152, 2, none⟩ (.int .i64 ((J67 l0 x5_1).f2.f0))).setCell ⟨gb152, 3, none⟩ (.int .i64 ((J67 l0 x5_1).f2.f1))).setCell ⟨gb152, 4, none⟩ (.int .i64 ((J67 l0 x5_1).f2.f2))).setCell ⟨gb152, 5, none⟩ (.int .i64 ((J67 l0 x5_1).f2.f3))).setCell ⟨gb152, 6, none⟩ (.bool ((J67 l0 x5_1).f3.f0))).setCell ⟨gb152, 7, none⟩ (.int .i64 ((J67 l0 x5_1).f3.f1))).setCell ⟨gb152, 8, none⟩ (.int .i64 ((J67 l0 x5_1).f3.f2))).setCell ⟨gb152, 9, none⟩ (.slice A151_9 ((J67 l0 x5_1).f3.f3).length c151_9)) = w24 at n0_ n1_ n2_ n3_ ⊢
             have HO_3 := n0_
             have HO_4 := n1_
             have BK152 := n2_
             have HB := n3_
             clear n0_ n1_ n2_ n3_
             have n0_ := asd (Kd.R_drew HO_3.out)
             have n1_ := asd (Kd.R_drew HO_4.out)
             have n2_ := asd (blk_drew BK152.out)
             have n3_ := asd (below_drew1 HB.out)
             clear HO_3
             clear HO_4
             clear BK152
             clear HB
             have HO_3 := n0_
             have HO_4 := n1_
             have BK152 := n2_
             have HB := n3_
             clear n0_ n1_ n2_ n3_
             refine start_ (n := 30) (S := fun w' => w'.cell? ⟨gb152, 0, none⟩ = some (.int .i64 ((J67 l0 x5_1).f0)) ∧ w'.cell? ⟨gb152, 1, none⟩ = some (.bool ((J67 l0 x5_1).f1)) ∧ w'.cell? ⟨gb152, 2, none⟩ = some (.int .i64 ((J67 l0 x5_1).f2.f0)) ∧ w'.cell? ⟨gb152, 3, none⟩ = some (.int .i64 ((J67 l0 x5_1).f2.f1)) ∧ w'.cell? ⟨gb152, 4, none⟩ = some (.int .i64 ((J67 l0 x5_1).f2.f2)) ∧ w'.cell? ⟨gb152, 5, none⟩ = some (.int .i64 ((J67 l0 x5_1).f2.f3)) ∧ w'.cell? ⟨gb152, 6, none⟩ = some (.bool ((J67 l0 x5_1).f3.f0)) ∧ w'.cell? ⟨gb152, 7, none⟩ = some (.int .i64 ((J67 l0 x5_1).f3.f1)) ∧ w'.cell? ⟨gb152, 8, none⟩ = some (.int .i64 ((J67 l0 x5_1).f3.f2)) ∧ w'.cell? ⟨gb152, 9, none⟩ = some (.slice A151_9 ((J67 l0 x5_1).f3.f3).length c151_9)) (ds := []) #[false,false,false,false,false,false,false,false,false,false,false,false,false,false,false,false,false,false,false,false,false,false,false,false,false,false,false,false,false,false] (by kernel_rfl) rfl rfl ⟨(blk_cell BK152.out 0).trans rfl, (blk_cell BK152.out 1).trans rfl, (blk_cell BK152.out 2).trans rfl, (blk_cell BK152.out 3).trans rfl, (blk_cell BK152.out 4).trans rfl, (blk_cell BK152.out 5).trans rfl, (blk_cell BK152.out 6).trans rfl, (blk_cell BK152.out 7).trans rfl, (blk_cell BK152.out 8).trans rfl, (blk_cell BK152.out 9).trans rfl⟩ (fun hHeld => ?_); refine with_tabW larchref05_Check.tab9 larchref05_Check.bits9 (fun HT_ HW_ => ?_)
             generalize w24.drew = w25 at HO_3 HO_4 BK152 HB hHeld ⊢
             refine pure_ (i := 0) (N := some 22) (v := ?_) (a' := ?_) #[true,false,false,false,false,false,false,false,false,false,false,false,false,false,false,false,false,false,false,false,false,false,false,false,false,false,false,false,false,false] rfl rfl (aK HT_.out) (fun _ _ _ h => h) (Or.inl ⟨by rfl, ?_⟩) ?_ ?_
             rotate_left
             ·
              intro w'
              go_simp
              with_reducible rfl
             rotate_left
             ·
              simp only [Act.put, sp]
              rfl
             refine take_ (i := 1) (N := some 23) (v := ?_) (a' := ?_) #[true,true,false,false,false,false,false,false,false,false,false,false,false,false,false,false,false,false,false,false,false,false,false,false,false,false,false,false,false,false] rfl rfl (take_ofW HT_.out HW_.out (by kernel_rfl)) (fun _ _ _ h => h) (Or.inl ⟨by rfl, ?_⟩) hHeld ?_ ?_
             rotate_left
             ·
              rintro w' ⟨s0, s1, s2, s3, s4, s5, s6, s7, s8, s9⟩
              go_simp
              with_reducible rfl
             rotate_left
             ·
              simp only [Act.put, sp]
              rfl
             refine pure_ (i := 2) (N := some 24) (v := ?_) (a' := ?_) #[true,true,true,false,false,false,false,false,false,false,false,false,false,false,false,false,false,false,false,false,false,false,false,false,false,false,false,false,false,false] rfl rfl (aK HT_.out) (fun _ _ _ h => h) (Or.inl ⟨by rfl, ?_⟩) ?_ ?_
             rotate_left
             ·
              intro w'
              go_simp
              with_reducible rfl
             rotate_left
             ·
              simp only [Act.put, sp]
              rfl
             refine pure_ (i := 3) (N := some 25) (v := ?_) (a' := ?_) #[true,true,true,true,false,false,false,false,false,false,false,false,false,false,false,false,false,false,false,false,false,false,false,false,false,false,false,false,false,false] rfl rfl (aK HT_.out) (fun _ _ _ h => h) (Or.inl ⟨by rfl, ?_⟩) ?_ ?_
             rotate_left
             ·
              intro w'
              go_simp
              with_reducible rfl
             rotate_left
             ·
              simp only [Act.put, sp]
              rfl
             refine pure_ (i := 4) (N := some 26) (v := ?_) (a' := ?_) #[true,true,true,true,true,false,false,false,false,false,false,false,false,false,false,false,false,false,false,false,false,false,false,false,false,false,false,false,false,false] rfl rfl (aK HT_.out) (fun _ _ _ h => h) (Or.inl ⟨by rfl, ?_⟩) ?_ ?_
             rotate_left
             ·
              intro w'
              go_simp
              with_reducible rfl
             rotate_left
             ·
              simp only [Act.put, sp]
              rfl
             refine take_ (i := 5) (N := some 27) (v := ?_) (a' := ?_) #[true,true,true,true,true,true,false,false,false,false,false,false,false,false,false,false,false,false,false,false,false,false,false,false,false,false,false,false,false,false] rfl rfl (take_ofW HT_.out HW_.out (by kernel_rfl)) (fun _ _ _ h => h) (Or.inl ⟨by rfl, ?_⟩) hHeld ?_ ?_
             rotate_left
             ·
              rintro w' ⟨s0, s1, s2, s3, s4, s5, s6, s7, s8, s9⟩
              go_simp
              with_reducible rfl
             rotate_left
             ·
              simp only [Act.put, sp]
              rfl
             refine pure_ (i := 6) (N := some 28) (v := ?_) (a' := ?_) #[true,true,true,true,true,true,true,false,false,false,false,false,false,false,false,false,false,false,false,false,false,false,false,false,false,false,false,false,false,false] rfl rfl (aK HT_.out) (fun _ _ _ h => h) (Or.inl ⟨by rfl, ?_⟩) ?_ ?_
             rotate_left
             ·
              intro w'
              go_simp
              with_reducible rfl
             rotate_left
             ·
              simp only [Act.put, sp]
              rfl
             refine pure_ (i := 7) (N := some 29) (v := ?_) (a' := ?_) #[true,true,true,true,true,true,true,true,false,false,false,false,false,false,false,false,false,false,false,false,false,false,false,false,false,false,false,false,false,false] rfl rfl (aK HT_.out) (fun _ _ _ h => h) (Or.inl ⟨by rfl, ?_⟩) ?_ ?_
             rotate_left
             ·
              intro w'
              go_simp
              with_reducible rfl
             rotate_left
             ·
              simp only [Act.put, sp]
              rfl
             refine pure_ (i := 8) (N := some 30) (v := ?_) (a' := ?_) #[true,true,true,true,true,true,true,true,true,false,false,false,false,false,false,false,false,false,false,false,false,false,false,false,false,false,false,false,false,false] rfl rfl (aK HT_.out) (fun _ _ _ h => h) (Or.inl ⟨by rfl, ?_⟩) ?_ ?_
             rotate_left
             ·
              intro w'
              go_simp
              with_reducible rfl
             rotate_left
             ·
              simp only [Act.put, sp]
              rfl
             refine pure_ (i := 9) (N := some 31) (v := ?_) (a' := ?_) #[true,true,true,true,true,true,true,true,true,true,false,false,false,false,false,false,false,false,false,false,false,false,false,false,false,false,false,false,false,false] rfl rfl (aK HT_.out) (fun _ _ _ h => h) (Or.inl ⟨by rfl, ?_⟩) ?_ ?_
             rotate_left
             ·
              intro w'
              go_simp
              with_reducible rfl
             rotate_left
             ·
              simp only [Act.put, sp]
              rfl
             refine pure_ (i := 10) (N := some 32) (v := ?_) (a' := ?_) #[true,true,true,true,true,true,true,true,true,true,true,false,false,false,false,false,false,false,false,false,false,false,false,false,false,false,false,false,false,false] rfl rfl (aK HT_.out) (fun _ _ _ h => h) (Or.inl ⟨by rfl, ?_⟩) ?_ ?_
             rotate_left
             ·
              intro w'
              go_simp
              with_reducible rfl
             rotate_left
             ·
              simp only [Act.put, sp]
              rfl
             refine take_ (i := 11) (N := some 33) (v := ?_) (a' := ?_) #[true,true,true,true,true,true,true,true,true,true,true,true,false,false,false,false,false,false,false,false,false,false,false,false,false,false,false,false,false,false] rfl rfl (take_ofW HT_.out HW_.out (by kernel_rfl)) (fun _ _ _ h => h) (Or.inl ⟨by rfl, ?_⟩) hHeld ?_ ?_
             rotate_left
             ·
              rintro w' ⟨s0, s1, s2, s3, s4, s5, s6, s7, s8, s9⟩
              go_simp
              with_reducible rfl
             rotate_left
             ·
              simp only [Act.put, sp]
              rfl
             refine pure_ (i := 12) (N := some 34) (v := ?_) (a' := ?_) #[true,true,true,true,true,true,true,true,true,true,true,true,true,false,false,false,false,false,false,false,false,false,false,false,false,false,false,false,false,false] rfl rfl (aK HT_.out) (fun _ _ _ h => h) (Or.inl ⟨by rfl, ?_⟩) ?_ ?_
             rotate_left
             ·
              intro w'
              go_simp
              with_reducible rfl
             rotate_left
             ·
              simp only [Act.put, sp]
              rfl
             refine pure_ (i := 13) (N := some 35) (v := ?_) (a' := ?_) #[true,true,true,true,true,true,true,true,true,true,true,true,true,true,false,false,false,false,false,false,false,false,false,false,false,false,false,false,false,false] rfl rfl (aK HT_.out) (fun _ _ _ h => h) (Or.inl ⟨by rfl, ?_⟩) ?_ ?_
             rotate_left
             ·
              intro w'
              go_simp
              with_reducible rfl
             rotate_left
             ·
              simp only [Act.put, sp]
              rfl
             refine pure_ (i := 14) (N := some 36) (v := ?_) (a' := ?_) #[true,true,true,true,true,true,true,true,true,true,true,true,true,true,true,false,false,false,false,false,false,false,false,false,false,false,false,false,false,false] rfl rfl (aK HT_.out) (fun _ _ _ h => h) (Or.inl ⟨by rfl, ?_⟩) ?_ ?_
             rotate_left
             ·
              intro w'
              go_simp
              with_reducible rfl
             rotate_left
             ·
              simp only [Act.put, sp]
              rfl
             refine pure_ (i := 15) (N := some 37) (v := ?_) (a' := ?_) #[true,true,true,true,true,true,true,true,true,true,true,true,true,true,true,true,false,false,false,false,false,false,false,false,false,false,false,false,false,false] rfl rfl (aK HT_.out) (fun _ _ _ h => h) (Or.inl ⟨by rfl, ?_⟩) ?_ ?_
             rotate_left
             ·
              intro w'
              go_simp
              with_reducible rfl
             rotate_left
             ·
              simp only [Act.put, sp]
              rfl
             refine pure_ (i := 16) (N := some 38) (v := ?_) (a' := ?_) #[true,true,true,true,true,true,true,true,true,true,true,true,true,true,true,true,true,false,false,false,false,false,false,false,false,false,false,false,false,false] rfl rfl (aK HT_.out) (fun _ _ _ h => h) (Or.inl ⟨by rfl, ?_⟩) ?_ ?_
             rotate_left
             ·
              intro w'
              go_simp
              with_reducible rfl
             rotate_left
             ·
              simp only [Act.put, sp]
              rfl
             refine take_ (i := 17) (N := some 39) (v := ?_) (a' := ?_) #[true,true,true,true,true,true,true,true,true,true,true,true,true,true,true,true,true,true,false,false,false,false,false,false,false,false,false,false,false,false] rfl rfl (take_ofW HT_.out HW_.out (by kernel_rfl)) (fun _ _ _ h => h) (Or.inl ⟨by rfl, ?_⟩) hHeld ?_ ?_
             rotate_left
             ·
              rintro w' ⟨s0, s1, s2, s3, s4, s5, s6, s7, s8, s9⟩
              go_simp
              with_reducible rfl
             rotate_left
             ·
              simp only [Act.put, sp]
              rfl
             refine pure_ (i := 18) (N := some 40) (v := ?_) (a' := ?_) #[true,true,true,true,true,true,true,true,true,true,true,true,true,true,true,true,true,true,true,false,false,false,false,false,false,false,false,false,false,false] rfl rfl (aK HT_.out) (fun _ _ _ h => h) (Or.inl ⟨by rfl, ?_⟩) ?_ ?_
             rotate_left
             ·
              intro w'
              go_simp
              with_reducible rfl
             rotate_left
             ·
              simp only [Act.put, sp]
              rfl
             refine pure_ (i := 19) (N := some 41) (v := ?_) (a' := ?_) #[true,true,true,true,true,true,true,true,true,true,true,true,true,true,true,true,true,true,true,true,false,false,false,false,false,false,false,false,false,false] rfl rfl (aK HT_.out) (fun _ _ _ h => h) (Or.inl ⟨by rfl, ?_⟩) ?_ ?_
             rotate_left
             ·
              intro w'
              go_simp
              with_reducible rfl
             rotate_left
             ·
              simp only [Act.put, sp]
              rfl
             refine pure_ (i := 20) (N := some 42) (v := ?_) (a' := ?_) #[true,true,true,true,true,true,true,true,true,true,true,true,true,true,true,true,true,true,true,true,true,false,false,false,false,false,false,false,false,false] rfl rfl (aK HT_.out) (fun _ _ _ h => h) (Or.inl ⟨by rfl, ?_⟩) ?_ ?_
             rotate_left
             ·
              intro w'
              go_simp
              with_reducible rfl
             rotate_left
             ·
              simp only [Act.put, sp]
              rfl
             refine pure_ (i := 21) (N := some 43) (v := undef) (a' := ?_) #[true,true,true,true,true,true,true,true,true,true,true,true,true,true,true,true,true,true,true,true,true,true,false,false,false,false,false,false,false,false] rfl rfl (aK HT_.out) (fun _ _ _ h => h) (Or.inr ⟨by rfl, rfl⟩) ?_ ?_
             rotate_left
             ·
              simp only [Act.put, sp]
              rfl
             refine pure_ (i := 22) (N := some 44) (v := undef) (a' := ?_) #[true,true,true,true,true,true,true,true,true,true,true,true,true,true,true,true,true,true,true,true,true,true,true,false,false,false,false,false,false,false] rfl rfl (aK HT_.out) (fun _ _ _ h => h) (Or.inr ⟨by rfl, rfl⟩) ?_ ?_
             rotate_left
             ·
              simp only [Act.put, sp]
              rfl
             refine pure_ (i := 23) (N := some 45) (v := undef) (a' := ?_) #[true,true,true,true,true,true,true,true,true,true,true,true,true,true,true,true,true,true,true,true,true,true,true,true,false,false,false,false,false,false] rfl rfl (aK HT_.out) (fun _ _ _ h => h) (Or.inr ⟨by rfl, rfl⟩) ?_ ?_
             rotate_left
             ·
              simp only [Act.put, sp]
              rfl
             refine pure_ (i := 24) (N := some 46) (v := undef) (a' := ?_) #[true,true,true,true,true,true,true,true,true,true,true,true,true,true,true,true,true,true,true,true,true,true,true,true,true,false,false,false,false,false] rfl rfl (aK HT_.out) (fun _ _ _ h => h) (Or.inr ⟨by rfl, rfl⟩) ?_ ?_
             rotate_left
             ·
              simp only [Act.put, sp]
              rfl
             refine pure_ (i := 25) (N := some 47) (v := undef) (a' := ?_) #[true,true,true,true,true,true,true,true,true,true,true,true,true,true,true,true,true,true,true,true,true,true,true,true,true,true,false,false,false,false] rfl rfl (aK HT_.out) (fun _ _ _ h => h) (Or.inr ⟨by rfl, rfl⟩) ?_ ?_
             rotate_left
             ·
              simp only [Act.put, sp]
              rfl
             refine pure_ (i := 26) (N := some 48) (v := undef) (a' := ?_) #[true,true,true,true,true,true,true,true,true,true,true,true,true,true,true,true,true,true,true,true,true,true,true,true,true,true,true,false,false,false] rfl rfl (aK HT_.out) (fun _ _ _ h => h) (Or.inr ⟨by rfl, rfl⟩) ?_ ?_
             rotate_left
             ·
              simp only [Act.put, sp]
              rfl
             refine pure_ (i := 27) (N := some 49) (v := undef) (a' := ?_) #[true,true,true,true,true,true,true,true,true,true,true,true,true,true,true,true,true,true,true,true,true,true,true,true,true,true,true,true,false,false] rfl rfl (aK HT_.out) (fun _ _ _ h => h) (Or.inr ⟨by rfl, rfl⟩) ?_ ?_
             rotate_left
             ·
              simp only [Act.put, sp]
              rfl
             refine pure_ (i := 28) (N := some 50) (v := undef) (a' := ?_) #[true,true,true,true,true,true,true,true,true,true,true,true,true,true,true,true,true,true,true,true,true,true,true,true,true,true,true,true,true,false] rfl rfl (aK HT_.out) (fun _ _ _ h => h) (Or.inr ⟨by rfl, rfl⟩) ?_ ?_
             rotate_left
             ·
              simp only [Act.put, sp]
              rfl
             refine pure_ (i := 29) (N := some 51) (v := ?_) (a' := ?_) #[true,true,true,true,true,true,true,true,true,true,true,true,true,true,true,true,true,true,true,true,true,true,true,true,true,true,true,true,true,true] rfl rfl (aK HT_.out) (fun _ _ _ h => h) (Or.inl ⟨by rfl, ?_⟩) ?_ ?_
             rotate_left
             ·
              intro w'
              go_simp
              with_reducible rfl
             rotate_left
             ·
              simp only [Act.put, sp]
              rfl
             refine done_ (done_of HT_.out (by kernel_rfl)) ?_
             try go_wp2
             go_meet
             case rel => exact ⟨_, (true), rs, H', ⟨by have := HK1.out; first | omega | exact Nat.le_refl _⟩, ⟨skR HO_3.out⟩, ⟨skR HO_4.out⟩, ⟨skK BK152.out⟩, ⟨skG HB.out GE152.out GE152.out⟩⟩
            ·
             rw [if_neg c23] at H
             have c23b0 : decide (9 < ((J67 l0 x5_1).f2.f0)) = false := decide_eq_false c23
             clear c23
             by_cases c26 : 0 ≤ ((J67 l0 x5_1).f0)
             ·
              rw [if_pos c26] at H
              have c26b0 : decide (0 ≤ ((J67 l0 x5_1).f0)) = true := decide_eq_true c26
              clear c26
              by_cases c27 : ((J67 l0 x5_1).f0) < (x3_1.length : Int)
              ·
               rw [if_pos c27] at H
               have c27b0 : decide (((J67 l0 x5_1).f0) < (x3_1.length : Int)) = true := decide_eq_true c27
               clear c27
               have H' := asd H
               clear H
               try go_wp2
               have n0_ : Aside0 (Kd.R Kd.bool 4 ((((((((((w12.setCell ⟨gb152, 0, none⟩ (.int .i64 ((J67 l0 x5_1).f0))).setCell ⟨gb152, 1, none⟩ (.bool ((J67 l0 x5_1).f1))).setCell ⟨gb152, 2, none⟩ (.int .i64 ((J67 l0 x5_1).f2.f0))).setCell ⟨gb152, 3, none⟩ (.int .i64 ((J67 l0 x5_1).f2.f1))).setCell ⟨gb152, 4, none⟩ (.int .i64 ((J67 l0 x5_1).f2.f2))).setCell ⟨gb152, 5, none⟩ (.int .i64 ((J67 l0 x5_1).f2.f3))).setCell ⟨gb152, 6, none⟩ (.bool ((J67 l0 x5_1).f3.f0))).setCell ⟨gb152, 7, none⟩ (.int .i64 ((J67 l0 x5_1).f3.f1))).setCell ⟨gb152, 8, none⟩ (.int .i64 ((J67 l0 x5_1).f3.f2))).setCell ⟨gb152, 9, none⟩ (.slice A151_9 ((J67 l0 x5_1).f3.f3).length c151_9)) w.heap.size (fun _ => True) v146 x3_1) := ⟨skR (Kd.R_mono (Kd.R_far (p := ⟨gb152, 9, none⟩) (Kd.R_far (p := ⟨gb152, 8, none⟩) (Kd.R_far (p := ⟨gb152, 7, none⟩) (Kd.R_far (p := ⟨gb152, 6, none⟩) (Kd.R_far (p := ⟨gb152, 5, none⟩) (Kd.R_far (p := ⟨gb152, 4, none⟩) (Kd.R_far (p := ⟨gb152, 3, none⟩) (Kd.R_far (p := ⟨gb152, 2, none⟩) (Kd.R_far (p := ⟨gb152, 1, none⟩) (Kd.R_far (p := ⟨gb152, 0, none⟩) (Kd.R_types HO_3.out BK152.out (by decide)) (fun _ hk => hk.2) (.int .i64 ((J67 l0 x5_1).f0))) (fun _ hk => hk.2) (.bool ((J67 l0 x5_1).f1))) (fun _ hk => hk.2) (.int .i64 ((J67 l0 x5_1).f2.f0))) (fun _ hk => hk.2) (.int .i64 ((J67 l0 x5_1).f2.f1))) (fun _ hk => hk.2) (.int .i64 ((J67 l0 x5_1).f2.f2))) (fun _ hk => hk.2) (.int .i64 ((J67 l0 x5_1).f2.f3))) (fun _ hk => hk.2) (.bool ((J67 l0 x5_1).f3.f0))) (fun _ hk => hk.2) (.int .i64 ((J67 l0 x5_1).f3.f1))) (fun _ hk => hk.2) (.int .i64 ((J67 l0 x5_1).f3.f2))) (fun _ hk => hk.2) (.slice A151_9 ((J67 l0 x5_1).f3.f3).length c151_9)) (fun _ hk => trivial))⟩
               have n1_ : Aside0 (Kd.R k33 33 ((((((((((w12.setCell ⟨gb152, 0, none⟩ (.int .i64 ((J67 l0 x5_1).f0))).setCell ⟨gb152, 1, none⟩ (.bool ((J67 l0 x5_1).f1))).setCell ⟨gb152, 2, none⟩ (.int .i64 ((J67 l0 x5_1).f2.f0))).setCell ⟨gb152, 3, none⟩ (.int .i64 ((J67 l0 x5_1).f2.f1))).setCell ⟨gb152, 4, none⟩ (.int .i64 ((J67 l0 x5_1).f2.f2))).setCell ⟨gb152, 5, none⟩ (.int .i64 ((J67 l0 x5_1).f2.f3))).setCell ⟨gb152, 6, none⟩ (.bool ((J67 l0 x5_1).f3.f0))).setCell ⟨gb152, 7, none⟩ (.int .i64 ((J67 l0 x5_1).f3.f1))).setCell ⟨gb152, 8, none⟩ (.int .i64 ((J67 l0 x5_1).f3.f2))).setCell ⟨gb152, 9, none⟩ (.slice A151_9 ((J67 l0 x5_1).f3.f3).length c151_9)) w.heap.size (fun _ => True) v149 x4_1) := ⟨skR (Kd.R_mono (Kd.R_far (p := ⟨gb152, 9, none⟩) (Kd.R_far (p := ⟨gb152, 8, none⟩) (Kd.R_far (p := ⟨gb152, 7, none⟩) (Kd.R_far (p := ⟨gb152, 6, none⟩) (Kd.R_far (p := ⟨gb152, 5, none⟩) (Kd.R_far (p := ⟨gb152, 4, none⟩) (Kd.R_far (p := ⟨gb152, 3, none⟩) (Kd.R_far (p := ⟨gb152, 2, none⟩) (Kd.R_far (p := ⟨gb152, 1, none⟩) (Kd.R_far (p := ⟨gb152, 0, none⟩) (Kd.R_types HO_4.out BK152.out (by decide)) (fun _ hk => hk.2) (.int .i64 ((J67 l0 x5_1).f0))) (fun _ hk => hk.2) (.bool ((J67 l0 x5_1).f1))) (fun _ hk => hk.2) (.int .i64 ((J67 l0 x5_1).f2.f0))) (fun _ hk => hk.2) (.int .i64 ((J67 l0 x5_1).f2.f1))) (fun _ hk => hk.2) (.int .i64 ((J67 l0 x5_1).f2.f2))) (fun _ hk => hk.2) (.int .i64 ((J67 l0 x5_1).f2.f3))) (fun _ hk => hk.2) (.bool ((J67 l0 x5_1).f3.f0))) (fun _ hk => hk.2) (.int .i64 ((J67 l0 x5_1).f3.f1))) (fun _ hk => hk.2) (.int .i64 ((J67 l0 x5_1).f3.f2))) (fun _ hk => hk.2) (.slice A151_9 ((J67 l0 x5_1).f3.f3).length c151_9)) (fun _ hk => trivial))⟩
               have n2_ : Aside0 (((((((((((w12.setCell ⟨gb152, 0, none⟩ (.int .i64 ((J67 l0 x5_1).f0))).setCell ⟨gb152, 1, none⟩ (.bool ((J67 l0 x5_1).f1))).setCell ⟨gb152, 2, none⟩ (.int .i64 ((J67 l0 x5_1).f2.f0))).setCell ⟨gb152, 3, none⟩ (.int .i64 ((J67 l0 x5_1).f2.f1))).setCell ⟨gb152, 4, none⟩ (.int .i64 ((J67 l0 x5_1).f2.f2))).setCell ⟨gb152, 5, none⟩ (.int .i64 ((J67 l0 x5_1).f2.f3))).setCell ⟨gb152, 6, none⟩ (.bool ((J67 l0 x5_1).f3.f0))).setCell ⟨gb152, 7, none⟩ (.int .i64 ((J67 l0 x5_1).f3.f1))).setCell ⟨gb152, 8, none⟩ (.int .i64 ((J67 l0 x5_1).f3.f2))).setCell ⟨gb152, 9, none⟩ (.slice A151_9 ((J67 l0 x5_1).f3.f3).length c151_9)).heap[gb152]? = some (.cells #[.int .i64 ((J67 l0 x5_1).f0), .bool ((J67 l0 x5_1).f1), .int .i64 ((J67 l0 x5_1).f2.f0), .int .i64 ((J67 l0 x5_1).f2.f1), .int .i64 ((J67 l0 x5_1).f2.f2), .int .i64 ((J67 l0 x5_1).f2.f3), .bool ((J67 l0 x5_1).f3.f0), .int .i64 ((J67 l0 x5_1).f3.f1), .int .i64 ((J67 l0 x5_1).f3.f2), .slice A151_9 ((J67 l0 x5_1).f3.f3).length c151_9] 67 (0, 0))) := ⟨by refine skk ?_; refine blk_put (cs := #[.int .i64 ((J67 l0 x5_1).f0), .bool ((J67 l0 x5_1).f1), .int .i64 ((J67 l0 x5_1).f2.f0), .int .i64 ((J67 l0 x5_1).f2.f1), .int .i64 ((J67 l0 x5_1).f2.f2), .int .i64 ((J67 l0 x5_1).f2.f3), .bool ((J67 l0 x5_1).f3.f0), .int .i64 ((J67 l0 x5_1).f3.f1), .int .i64 ((J67 l0 x5_1).f3.f2), .slice none 0 0]) ?_ 9 _ rfl; refine skk ?_; refine blk_put (cs := #[.int .i64 ((J67 l0 x5_1).f0), .bool ((J67 l0 x5_1).f1), .int .i64 ((J67 l0 x5_1).f2.f0), .int .i64 ((J67 l0 x5_1).f2.f1), .int .i64 ((J67 l0 x5_1).f2.f2), .int .i64 ((J67 l0 x5_1).f2.f3), .bool ((J67 l0 x5_1).f3.f0), .int .i64 ((J67 l0 x5_1).f3.f1), .int .i64 0, .slice none 0 0]) ?_ 8 _ rfl; refine skk ?_; refine blk_put (cs := #[.int .i64 ((J67 l0 x5_1).f0), .bool ((J67 l0 x5_1).f1), .int .i64 ((J67 l0 x5_1).f2.f0), .int .i64 ((J67 l0 x5_1).f2.f1), .int .i64 ((J67 l0 x5_1).f2.f2), .int .i64 ((J67 l0 x5_1).f2.f3), .bool ((J67 l0 x5_1).f3.f0), .int .i64 0, .int .i64 0, .slice none 0 0]) ?_ 7 _ rfl; refine skk ?_; refine blk_put (cs := #[.int .i64 ((J67 l0 x5_1).f0), .bool ((J67 l0 x5_1).f1), .int .i64 ((J67 l0 x5_1).f2.f0), .int .i64 ((J67 l0 x5_1).f2.f1), .int .i64 ((J67 l0 x5_1).f2.f2), .int .i64 ((J67 l0 x5_1).f2.f3), .bool false, .int .i64 0, .int .i64 0, .slice none 0 0]) ?_ 6 _ rfl; refine skk ?_; refine blk_put (cs := #[.int .i64 ((J67 l0 x5_1).f0), .bool ((J67 l0 x5_1).f1), .int .i64 ((J67 l0 x5_1).f2.f0), .int .i64 ((J67 l0 x5_1).f2.f1), .int .i64 ((J67 l0 x5_1).f2.f2), .int .i64 0, .bool false, .int .i64 0, .int .i64 0, .slice none 0 0]) ?_ 5 _ rfl; refine skk ?_; refine blk_put (cs := #[.int .i64 ((J67 l0 x5_1).f0), .bool ((J67 l0 x5_1).f1), .int .i64 ((J67 l0 x5_1).f2.f0), .int .i64 ((J67 l0 x5_1).f2.f1), .int .i64 0, .int .i64 0, .bool false, .int .i64 0, .int .i64 0, .slice none 0 0]) ?_ 4 _ rfl; refine skk ?_; refine blk_put (cs := #[.int .i64 ((J67 l0 x5_1).f0), .bool ((J67 l0 x5_1).f1), .int .i64 ((J67 l0 x5_1).f2.f0), .int .i64 0, .int .i64 0, .int .i64 0, .bool false, .int .i64 0, .int .i64 0, .slice none 0 0]) ?_ 3 _ rfl; refine skk ?_; refine blk_put (cs := #[.int .i64 ((J67 l0 x5_1).f0), .bool ((J67 l0 x5_1).f1), .int .i64 0, .int .i64 0, .int .i64 0, .int .i64 0, .bool false, .int .i64 0, .int .i64 0, .slice none 0 0]) ?_ 2 _ rfl; refine skk ?_; refine blk_put (cs := #[.int .i64 ((J67 l0 x5_1).f0), .bool false, .int .i64 0, .int .i64 0, .int .i64 0, .int .i64 0, .bool false, .int .i64 0, .int .i64 0, .slice none 0 0]) ?_ 1 _ rfl; refine skk ?_; refine blk_put (cs := #[.int .i64 0, .bool false, .int .i64 0, .int .i64 0, .int .i64 0, .int .i64 0, .bool false, .int .i64 0, .int .i64 0, .slice none 0 0]) ?_ 0 _ rfl; refine skk ?_; exact BK152.out⟩
               have n3_ : Aside0 (Below w.heap.size w ((((((((((w12.setCell ⟨gb152, 0, none⟩ (.int .i64 ((J67 l0 x5_1).f0))).setCell ⟨gb152, 1, none⟩ (.bool ((J67 l0 x5_1).f1))).setCell ⟨gb152, 2, none⟩ (.int .i64 ((J67 l0 x5_1).f2.f0))).setCell ⟨gb152, 3, none⟩ (.int .i64 ((J67 l0 x5_1).f2.f1))).setCell ⟨gb152, 4, none⟩ (.int .i64 ((J67 l0 x5_1).f2.f2))).setCell ⟨gb152, 5, none⟩ (.int .i64 ((J67 l0 x5_1).f2.f3))).setCell ⟨gb152, 6, none⟩ (.bool ((J67 l0 x5_1).f3.f0))).setCell ⟨gb152, 7, none⟩ (.int .i64 ((J67 l0 x5_1).f3.f1))).setCell ⟨gb152, 8, none⟩ (.int .i64 ((J67 l0 x5_1).f3.f2))).setCell ⟨gb152, 9, none⟩ (.slice A151_9 ((J67 l0 x5_1).f3.f3).length c151_9))) := ⟨skG HB.out GE152.out GE152.out⟩
               (try clear HO_3)
               (try clear HO_4)
               (try clear BK152)
               (try clear HB)
               generalize ((((((((((w12.setCell ⟨gb152, 0, none⟩ (.int .i64 ((J67 l0 x5_1).f0))).setCell ⟨gb152, 1, none⟩ (.bool ((J67 l0 x5_1).f1))).setCell ⟨gb152, 2, none⟩ (.int .i64 ((J67 l0 x5_1).f2.f0))).setCell ⟨gb152, 3, none⟩ (.int .i64 ((J67 l0 x5_1).f2.f1))).setCell ⟨gb152, 4, none⟩ (.int .i64 ((J67 l0 x5_1).f2.f2))).setCell ⟨gb152, 5, none⟩ (.int .i64 ((J67 l0 x5_1).f2.f3))).setCell ⟨gb152, 6, none⟩ (.bool ((J67 l0 x5_1).f3.f0))).setCell ⟨gb152, 7, none⟩ (.int .i64 ((J67 l0 x5_1).f3.f1))).setCell ⟨gb152, 8, none⟩ (.int .i64 ((J67 l0 x5_1).f3.f2))).setCell ⟨gb152, 9, none⟩ (.slice A151_9 ((J67 l0 x5_1).f3.f3).length c151_9)) = w28 at n0_ n1_ n2_ n3_ ⊢
               have HO_3 := n0_
               have HO_4 := n1_
               have BK152 := n2_
               have HB := n3_
               clear n0_ n1_ n2_ n3_
               have n0_ := asd (Kd.R_drew HO_3.out)
               have n1_ := asd (Kd.R_drew HO_4.out)
               have n2_ := asd (blk_drew BK152.out)
               have n3_ := asd (below_drew1 HB.out)
               clear HO_3
               clear HO_4
               clear BK152
               clear HB
               have HO_3 := n0_
               have HO_4 := n1_
               have BK152 := n2_
               have HB := n3_
               clear n0_ n1_ n2_ n3_
               obtain ⟨Ao30, co30, eo30⟩ := Kd.R_slice HO_3.out
               (first | subst eo30 | (injection eo30 with f1_ f2_ f3_; have f4_ := f1_.symm; have f5_ := f3_.symm; clear f1_ f2_ f3_; subst f4_; subst f5_))
               have p153 : 0 ≤ (((J67 l0 x5_1).f0) : Int) := dt
               have q153 : ((J67 l0 x5_1).f0) < (x3_1.length : Int) := dt
               obtain ⟨ad153, e153, hx153_0⟩ := Kd.at_bool (Kd.R_reads' HO_3.out).2.2 ((J67 l0 x5_1).f0) p153 q153
               cases e153
               replace p153 := eq_true p153
               replace q153 := eq_true q153
               refine start_ (n := 30) (S := fun w' => w'.cell? ⟨gb152, 0, none⟩ = some (.int .i64 ((J67 l0 x5_1).f0)) ∧ w'.cell? ⟨gb152, 1, none⟩ = some (.bool ((J67 l0 x5_1).f1)) ∧ w'.cell? ⟨gb152, 2, none⟩ = some (.int .i64 ((J67 l0 x5_1).f2.f0)) ∧ w'.cell? ⟨gb152, 3, none⟩ = some (.int .i64 ((J67 l0 x5_1).f2.f1)) ∧ w'.cell? ⟨gb152, 4, none⟩ = some (.int .i64 ((J67 l0 x5_1).f2.f2)) ∧ w'.cell? ⟨gb152, 5, none⟩ = some (.int .i64 ((J67 l0 x5_1).f2.f3)) ∧ w'.cell? ⟨gb152, 6, none⟩ = some (.bool ((J67 l0 x5_1).f3.f0)) ∧ w'.cell? ⟨gb152, 7, none⟩ = some (.int .i64 ((J67 l0 x5_1).f3.f1)) ∧ w'.cell? ⟨gb152, 8, none⟩ = some (.int .i64 ((J67 l0 x5_1).f3.f2)) ∧ w'.cell? ⟨gb152, 9, none⟩ = some (.slice A151_9 ((J67 l0 x5_1).f3.f3).length c151_9) ∧ w'.cell? (ad153.add (((J67 l0 x5_1).f0)).toNat) = some (.bool (rdOf false x3_1 ((J67 l0 x5_1).f0)))) (ds := []) #[false,false,false,false,false,false,false,false,false,false,false,false,false,false,false,false,false,false,false,false,false,false,false,false,false,false,false,false,false,false] (by kernel_rfl) rfl rfl ⟨(blk_cell BK152.out 0).trans rfl, (blk_cell BK152.out 1).trans rfl, (blk_cell BK152.out 2).trans rfl, (blk_cell BK152.out 3).trans rfl, (blk_cell BK152.out 4).trans rfl, (blk_cell BK152.out 5).trans rfl, (blk_cell BK152.out 6).trans rfl, (blk_cell BK152.out 7).trans rfl, (blk_cell BK152.out 8).trans rfl, (blk_cell BK152.out 9).trans rfl, hx153_0⟩ (fun hHeld => ?_); refine with_tabW larchref05_Check.tab9 larchref05_Check.bits9 (fun HT_ HW_ => ?_)
               generalize w28.drew = w29 at HO_3 HO_4 BK152 HB hx153_0 hHeld ⊢
               refine pure_ (i := 0) (N := some 22) (v := ?_) (a' := ?_) #[true,false,false,false,false,false,false,false,false,false,false,false,false,false,false,false,false,false,false,false,false,false,false,false,false,false,false,false,false,false] rfl rfl (aK HT_.out) (fun _ _ _ h => h) (Or.inl ⟨by rfl, ?_⟩) ?_ ?_
               rotate_left
               ·
                intro w'
                go_simp
                with_reducible rfl
               rotate_left
               ·
                simp only [Act.put, sp]
                rfl
               refine take_ (i := 1) (N := some 23) (v := ?_) (a' := ?_) #[true,true,false,false,false,false,false,false,false,false,false,false,false,false,false,false,false,false,false,false,false,false,false,false,false,false,false,false,false,false] rfl rfl (take_ofW HT_.out HW_.out (by kernel_rfl)) (fun _ _ _ h => h) (Or.inl ⟨by rfl, ?_⟩) hHeld ?_ ?_
               rotate_left
               ·
                rintro w' ⟨s0, s1, s2, s3, s4, s5, s6, s7, s8, s9, s10⟩
                go_simp
                with_reducible rfl
               rotate_left
               ·
                simp only [Act.put, sp]
                rfl
               refine pure_ (i := 2) (N := some 24) (v := ?_) (a' := ?_) #[true,true,true,false,false,false,false,false,false,false,false,false,false,false,false,false,false,false,false,false,false,false,false,false,false,false,false,false,false,false] rfl rfl (aK HT_.out) (fun _ _ _ h => h) (Or.inl ⟨by rfl, ?_⟩) ?_ ?_
               rotate_left
               ·
                intro w'
                go_simp
                with_reducible rfl
               rotate_left
               ·
                simp only [Act.put, sp]
                rfl
               refine pure_ (i := 3) (N := some 25) (v := ?_) (a' := ?_) #[true,true,true,true,false,false,false,false,false,false,false,false,false,false,false,false,false,false,false,false,false,false,false,false,false,false,false,false,false,false] rfl rfl (aK HT_.out) (fun _ _ _ h => h) (Or.inl ⟨by rfl, ?_⟩) ?_ ?_
               rotate_left
               ·
                intro w'
                go_simp
                with_reducible rfl
               rotate_left
               ·
                simp only [Act.put, sp]
                rfl
               refine pure_ (i := 4) (N := some 26) (v := ?_) (a' := ?_) #[true,true,true,true,true,false,false,false,false,false,false,false,false,false,false,false,false,false,false,false,false,false,false,false,false,false,false,false,false,false] rfl rfl (aK HT_.out) (fun _ _ _ h => h) (Or.inl ⟨by rfl, ?_⟩) ?_ ?_
               rotate_left
               ·
                intro w'
                go_simp
                with_reducible rfl
               rotate_left
               ·
                simp only [Act.put, sp]
                rfl
               refine take_ (i := 5) (N := some 27) (v := ?_) (a' := ?_) #[true,true,true,true,true,true,false,false,false,false,false,false,false,false,false,false,false,false,false,false,false,false,false,false,false,false,false,false,false,false] rfl rfl (take_ofW HT_.out HW_.out (by kernel_rfl)) (fun _ _ _ h => h) (Or.inl ⟨by rfl, ?_⟩) hHeld ?_ ?_
               rotate_left
               ·
                rintro w' ⟨s0, s1, s2, s3, s4, s5, s6, s7, s8, s9, s10⟩
                go_simp
                with_reducible rfl
               rotate_left
               ·
                simp only [Act.put, sp]
                rfl
               refine pure_ (i := 6) (N := some 28) (v := ?_) (a' := ?_) #[true,true,true,true,true,true,true,false,false,false,false,false,false,false,false,false,false,false,false,false,false,false,false,false,false,false,false,false,false,false] rfl rfl (aK HT_.out) (fun _ _ _ h => h) (Or.inl ⟨by rfl, ?_⟩) ?_ ?_
               rotate_left
               ·
                intro w'
                go_simp
                with_reducible rfl
               rotate_left
               ·
                simp only [Act.put, sp]
                rfl
               refine pure_ (i := 7) (N := some 29) (v := ?_) (a' := ?_) #[true,true,true,true,true,true,true,true,false,false,false,false,false,false,false,false,false,false,false,false,false,false,false,false,false,false,false,false,false,false] rfl rfl (aK HT_.out) (fun _ _ _ h => h) (Or.inl ⟨by rfl, ?_⟩) ?_ ?_
               rotate_left
               ·
                intro w'
                go_simp
                with_reducible rfl
               rotate_left
               ·
                simp only [Act.put, sp]
                rfl
               refine pure_ (i := 8) (N := some 30) (v := ?_) (a' := ?_) #[true,true,true,true,true,true,true,true,true,false,false,false,false,false,false,false,false,false,false,false,false,false,false,false,false,false,false,false,false,false] rfl rfl (aK HT_.out) (fun _ _ _ h => h) (Or.inl ⟨by rfl, ?_⟩) ?_ ?_
               rotate_left
               ·
                intro w'
                go_simp
                with_reducible rfl
               rotate_left
               ·
                simp only [Act.put, sp]
                rfl
               refine pure_ (i := 9) (N := some 31) (v := ?_) (a' := ?_) #[true,true,true,true,true,true,true,true,true,true,false,false,false,false,false,false,false,false,false,false,false,false,false,false,false,false,false,false,false,false] rfl rfl (aK HT_.out) (fun _ _ _ h => h) (Or.inl ⟨by rfl, ?_⟩) ?_ ?_
               rotate_left
               ·
                intro w'
                go_simp
                with_reducible rfl
               rotate_left
               ·
                simp only [Act.put, sp]
                rfl
               refine pure_ (i := 10) (N := some 32) (v := ?_) (a' := ?_) #[true,true,true,true,true,true,true,true,true,true,true,false,false,false,false,false,false,false,false,false,false,false,false,false,false,false,false,false,false,false] rfl rfl (aK HT_.out) (fun _ _ _ h => h) (Or.inl ⟨by rfl, ?_⟩) ?_ ?_
               rotate_left
               ·
                intro w'
                go_simp
                with_reducible rfl
               rotate_left
               ·
                simp only [Act.put, sp]
                rfl
               refine take_ (i := 11) (N := some 33) (v := ?_) (a' := ?_) #[true,true,true,true,true,true,true,true,true,true,true,true,false,false,false,false,false,false,false,false,false,false,false,false,false,false,false,false,false,false] rfl rfl (take_ofW HT_.out HW_.out (by kernel_rfl)) (fun _ _ _ h => h) (Or.inl ⟨by rfl, ?_⟩) hHeld ?_ ?_
               rotate_left
               ·
                rintro w' ⟨s0, s1, s2, s3, s4, s5, s6, s7, s8, s9, s10⟩
                go_simp
                with_reducible rfl
               rotate_left
               ·
                simp only [Act.put, sp]
                rfl
               refine pure_ (i := 12) (N := some 34) (v := ?_) (a' := ?_) #[true,true,true,true,true,true,true,true,true,true,true,true,true,false,false,false,false,false,false,false,false,false,false,false,false,false,false,false,false,false] rfl rfl (aK HT_.out) (fun _ _ _ h => h) (Or.inl ⟨by rfl, ?_⟩) ?_ ?_
               rotate_left
               ·
                intro w'
                go_simp
                with_reducible rfl
               rotate_left
               ·
                simp only [Act.put, sp]
                rfl
               refine pure_ (i := 13) (N := some 35) (v := ?_) (a' := ?_) #[true,true,true,true,true,true,true,true,true,true,true,true,true,true,false,false,false,false,false,false,false,false,false,false,false,false,false,false,false,false] rfl rfl (aK HT_.out) (fun _ _ _ h => h) (Or.inl ⟨by rfl, ?_⟩) ?_ ?_
               rotate_left
               ·
                intro w'
                go_simp
                with_reducible rfl
               rotate_left
               ·
                simp only [Act.put, sp]
                rfl
               refine pure_ (i := 14) (N := some 36) (v := ?_) (a' := ?_) #[true,true,true,true,true,true,true,true,true,true,true,true,true,true,true,false,false,false,false,false,false,false,false,false,false,false,false,false,false,false] rfl rfl (aK HT_.out) (fun _ _ _ h => h) (Or.inl ⟨by rfl, ?_⟩) ?_ ?_
               rotate_left
               ·
                intro w'
                go_simp
                with_reducible rfl
               rotate_left
               ·
                simp only [Act.put, sp]
                rfl
               refine pure_ (i := 15) (N := some 37) (v := ?_) (a' := ?_) #[true,true,true,true,true,true,true,true,true,true,true,true,true,true,true,true,false,false,false,false,false,false,false,false,false,false,false,false,false,false] rfl rfl (aK HT_.out) (fun _ _ _ h => h) (Or.inl ⟨by rfl, ?_⟩) ?_ ?_
               rotate_left
               ·
                intro w'
                go_simp
                with_reducible rfl
               rotate_left
               ·
                simp only [Act.put, sp]
                rfl
               refine pure_ (i := 16) (N := some 38) (v := ?_) (a' := ?_) #[true,true,true,true,true,true,true,true,true,true,true,true,true,true,true,true,true,false,false,false,false,false,false,false,false,false,false,false,false,false] rfl rfl (aK HT_.out) (fun _ _ _ h => h) (Or.inl ⟨by rfl, ?_⟩) ?_ ?_
               rotate_left
               ·
                intro w'
                go_simp
                with_reducible rfl
               rotate_left
               ·
                simp only [Act.put, sp]
                rfl
               refine take_ (i := 17) (N := some 39) (v := ?_) (a' := ?_) #[true,true,true,true,true,true,true,true,true,true,true,true,true,true,true,true,true,true,false,false,false,false,false,false,false,false,false,false,false,false] rfl rfl (take_ofW HT_.out HW_.out (by kernel_rfl)) (fun _ _ _ h => h) (Or.inl ⟨by rfl, ?_⟩) hHeld ?_ ?_
               rotate_left
               ·
                rintro w' ⟨s0, s1, s2, s3, s4, s5, s6, s7, s8, s9, s10⟩
                go_simp
                with_reducible rfl
               rotate_left
               ·
                simp only [Act.put, sp]
                rfl
               refine pure_ (i := 18) (N := some 40) (v := ?_) (a' := ?_) #[true,true,true,true,true,true,true,true,true,true,true,true,true,true,true,true,true,true,true,false,false,false,false,false,false,false,false,false,false,false] rfl rfl (aK HT_.out) (fun _ _ _ h => h) (Or.inl ⟨by rfl, ?_⟩) ?_ ?_
               rotate_left
               ·
                intro w'
                go_simp
                with_reducible rfl
               rotate_left
               ·
                simp only [Act.put, sp]
                rfl
               refine pure_ (i := 19) (N := some 41) (v := ?_) (a' := ?_) #[true,true,true,true,true,true,true,true,true,true,true,true,true,true,true,true,true,true,true,true,false,false,false,false,false,false,false,false,false,false] rfl rfl (aK HT_.out) (fun _ _ _ h => h) (Or.inl ⟨by rfl, ?_⟩) ?_ ?_
               rotate_left
               ·
                intro w'
                go_simp
                with_reducible rfl
               rotate_left
               ·
                simp only [Act.put, sp]
                rfl
               refine pure_ (i := 20) (N := some 42) (v := ?_) (a' := ?_) #[true,true,true,true,true,true,true,true,true,true,true,true,true,true,true,true,true,true,true,true,true,false,false,false,false,false,false,false,false,false] rfl rfl (aK HT_.out) (fun _ _ _ h => h) (Or.inl ⟨by rfl, ?_⟩) ?_ ?_
               rotate_left
               ·
                intro w'
                go_simp
                with_reducible rfl
               rotate_left
               ·
                simp only [Act.put, sp]
                rfl
               refine pure_ (i := 21) (N := some 43) (v := ?_) (a' := ?_) #[true,true,true,true,true,true,true,true,true,true,true,true,true,true,true,true,true,true,true,true,true,true,false,false,false,false,false,false,false,false] rfl rfl (aK HT_.out) (fun _ _ _ h => h) (Or.inl ⟨by rfl, ?_⟩) ?_ ?_
               rotate_left
               ·
                intro w'
                go_simp
                with_reducible rfl
               rotate_left
               ·
                simp only [Act.put, sp]
                rfl
               refine pure_ (i := 23) (N := some 45) (v := ?_) (a' := ?_) #[true,true,true,true,true,true,true,true,true,true,true,true,true,true,true,true,true,true,true,true,true,true,false,true,false,false,false,false,false,false] rfl rfl (aK HT_.out) (fun _ _ _ h => h) (Or.inl ⟨by rfl, ?_⟩) ?_ ?_
               rotate_left
               ·
                intro w'
                go_simp
                with_reducible rfl
               rotate_left
               ·
                simp only [Act.put, sp]
                rfl
               refine pure_ (i := 24) (N := some 46) (v := ?_) (a' := ?_) #[true,true,true,true,true,true,true,true,true,true,true,true,true,true,true,true,true,true,true,true,true,true,false,true,true,false,false,false,false,false] rfl rfl (aK HT_.out) (fun _ _ _ h => h) (Or.inl ⟨by rfl, ?_⟩) ?_ ?_
               rotate_left
               ·
                intro w'
                go_simp
                with_reducible rfl
               rotate_left
               ·
                simp only [Act.put, sp]
                rfl
               refine take_ (i := 22) (N := some 44) (v := ?_) (a' := ?_) #[true,true,true,true,true,true,true,true,true,true,true,true,true,true,true,true,true,true,true,true,true,true,true,true,true,false,false,false,false,false] rfl rfl (take_ofW HT_.out HW_.out (by kernel_rfl)) (fun _ _ _ h => h) (Or.inl ⟨by rfl, ?_⟩) hHeld ?_ ?_
               rotate_left
               ·
                rintro w' ⟨s0, s1, s2, s3, s4, s5, s6, s7, s8, s9, s10⟩
                go_simp
                with_reducible rfl
               rotate_left
               ·
                simp only [Act.put, sp]
                rfl
               refine take_ (i := 25) (N := some 47) (v := ?_) (a' := ?_) #[true,true,true,true,true,true,true,true,true,true,true,true,true,true,true,true,true,true,true,true,true,true,true,true,true,true,false,false,false,false] rfl rfl (take_ofW HT_.out HW_.out (by kernel_rfl)) (fun _ _ _ h => h) (Or.inl ⟨by rfl, ?_⟩) hHeld ?_ ?_
               rotate_left
               ·
                rintro w' ⟨s0, s1, s2, s3, s4, s5, s6, s7, s8, s9, s10⟩
                go_simp
                with_reducible rfl
               rotate_left
               ·
                simp only [Act.put, sp]
                rfl
               refine pure_ (i := 26) (N := some 48) (v := ?_) (a' := ?_) #[true,true,true,true,true,true,true,true,true,true,true,true,true,true,true,true,true,true,true,true,true,true,true,true,true,true,true,false,false,false] rfl rfl (aK HT_.out) (fun _ _ _ h => h) (Or.inl ⟨by rfl, ?_⟩) ?_ ?_
               rotate_left
               ·
                intro w'
                go_simp
                with_reducible rfl
               rotate_left
               ·
                simp only [Act.put, sp]
                rfl
               refine take_ (i := 27) (N := some 49) (v := ?_) (a' := ?_) #[true,true,true,true,true,true,true,true,true,true,true,true,true,true,true,true,true,true,true,true,true,true,true,true,true,true,true,true,false,false] rfl rfl (take_ofW HT_.out HW_.out (by kernel_rfl)) (fun _ _ _ h => h) (Or.inl ⟨by rfl, ?_⟩) hHeld ?_ ?_
               rotate_left
               ·
                rintro w' ⟨s0, s1, s2, s3, s4, s5, s6, s7, s8, s9, s10⟩
                go_simp
                with_reducible rfl
               rotate_left
               ·
                simp only [Act.put, sp]
                rfl
               refine pure_ (i := 28) (N := some 50) (v := ?_) (a' := ?_) #[true,true,true,true,true,true,true,true,true,true,true,true,true,true,true,true,true,true,true,true,true,true,true,true,true,true,true,true,true,false] rfl rfl (aK HT_.out) (fun _ _ _ h => h) (Or.inl ⟨by rfl, ?_⟩) ?_ ?_
               rotate_left
               ·
                intro w'
                go_simp
                with_reducible rfl
               rotate_left
               ·
                simp only [Act.put, sp]
                rfl
               refine pure_ (i := 29) (N := some 51) (v := ?_) (a' := ?_) #[true,true,true,true,true,true,true,true,true,true,true,true,true,true,true,true,true,true,true,true,true,true,true,true,true,true,true,true,true,true] rfl rfl (aK HT_.out) (fun _ _ _ h => h) (Or.inl ⟨by rfl, ?_⟩) ?_ ?_
               rotate_left
               ·
                intro w'
                go_simp
                with_reducible rfl
               rotate_left
               ·
                simp only [Act.put, sp]
                rfl
               refine done_ (done_of HT_.out (by kernel_rfl)) ?_
               try go_wp2
               go_meet
               case rel => exact ⟨_, ((((J67 l0 x5_1).f1) != (rdOf false x3_1 ((J67 l0 x5_1).f0)))), rs, H', ⟨by have := HK1.out; first | omega | exact Nat.le_refl _⟩, ⟨skR HO_3.out⟩, ⟨skR HO_4.out⟩, ⟨skK BK152.out⟩, ⟨skG HB.out GE152.out GE152.out⟩⟩
              ·
               rw [if_neg c27] at H
               exact absurd H (by simp)
             ·
              rw [if_neg c26] at H
              exact absurd H (by simp)
        case rest =>
         clear HC11
         try clear c1
         try clear p1
         try clear q1
         try clear hx1
         try clear c2
         try clear p2
         try clear c15
         try clear p15
         try clear q15
         try clear hx15
         try clear c20
         try clear c20b0
         try clear c23
         try clear c23b0
         try clear c26
         try clear c26b0
         try clear c27
         try clear c27b0
         try clear hx153_0
         try clear p153
         try clear q153
         obtain ⟨kq, x51_10, rfl, HA, HJ10, HO_3, HO_4, BK152, HB⟩ := hcut
         cases kq with
         | zero => exact absurd HA.out (by simp [larchref05_Check.j1])
         | succ kj10 =>
          have H := HA.out
          clear HA
          simp only [larchref05_Check.j1] at H
          by_cases c31 : x51_10 = true
          ·
           subst c31
           have H1 : (some 3) = some r := by rw [if_pos rfl] at H; exact H
           clear H
           have H := H1
           clear H1
           obtain rfl := Option.some.inj H
           go_wp2
           go_ret
           exact ⟨re, skG HB.out GE152.out GE152.out⟩
          ·
           replace c31 := Bool.eq_false_iff.mpr c31
           subst c31
           have H1 : (if ((J67 l0 x5_1).f1) = true then (if 0 ≤ ((J67 l0 x5_1).f0) then (if ((J67 l0 x5_1).f0) < (x4_1.length : Int) then (if (!(((J67 l0 x5_1).f2.f0) == ((J33 x4_1 ((J67 l0 x5_1).f0)).f0)) || (!(((J67 l0 x5_1).f2.f1) == ((J33 x4_1 ((J67 l0 x5_1).f0)).f1)) || (!(((J67 l0 x5_1).f2.f2) == ((J33 x4_1 ((J67 l0 x5_1).f0)).f2)) || (!(((J67 l0 x5_1).f2.f3) == ((J33 x4_1 ((J67 l0 x5_1).f0)).f3)))))) = true then (some 3) else (if ((J67 l0 x5_1).f0) < (x3_1.length : Int) then (larchref05_Check.l0 kj10 l0 (x3_1.set (((J67 l0 x5_1).f0) : Int).toNat (!((J67 l0 x5_1).f1))) (x4_1.set (((J67 l0 x5_1).f0) : Int).toNat (⟨((J67 l0 x5_1).f2.f0), ((J67 l0 x5_1).f2.f1), ((J67 l0 x5_1).f2.f2), ((J67 l0 x5_1).f2.f3)⟩ : S33)) (wrap64 (x5_1 + 1))) else (none))) else (none)) else (none)) else ((larchref05_SameRet.f kj10 ((J67 l0 x5_1).f3.f0) ((J67 l0 x5_1).f3.f1) ((J67 l0 x5_1).f3.f2) ((J67 l0 x5_1).f3.f3) false 0 0 ([] : List (S70))).bind fun t157 => (if t157 = true then (if 0 ≤ ((J67 l0 x5_1).f0) then (if ((J67 l0 x5_1).f0) < (x3_1.length : Int) then (if ((J67 l0 x5_1).f0) < (x4_1.length : Int) then (larchref05_Check.l0 kj10 l0 (x3_1.set (((J67 l0 x5_1).f0) : Int).toNat (!((J67 l0 x5_1).f1))) (x4_1.set (((J67 l0 x5_1).f0) : Int).toNat (⟨((J67 l0 x5_1).f2.f0), ((J67 l0 x5_1).f2.f1), ((J67 l0 x5_1).f2.f2), ((J67 l0 x5_1).f2.f3)⟩ : S33)) (wrap64 (x5_1 + 1))) else (none)) else (none)) else (none)) else (some 3)))) = some r := by rw [if_neg (show ¬ (false = true) by decide)] at H; exact H
           clear H
           have H := H1
           clear H1
           by_cases c32 : ((J67 l0 x5_1).f1) = true
           ·
            rw [if_pos c32] at H
            have c32b0 : ((J67 l0 x5_1).f1) = true := c32
            clear c32
            by_cases c33 : 0 ≤ ((J67 l0 x5_1).f0)
            ·
             rw [if_pos c33] at H
             have c33b0 : decide (0 ≤ ((J67 l0 x5_1).f0)) = true := decide_eq_true c33
             clear c33
             by_cases c34 : ((J67 l0 x5_1).f0) < (x4_1.length : Int)
             ·
              rw [if_pos c34] at H
              have c34b0 : decide (((J67 l0 x5_1).f0) < (x4_1.length : Int)) = true := decide_eq_true c34
              clear c34
              by_cases c35 : (!(((J67 l0 x5_1).f2.f0) == ((J33 x4_1 ((J67 l0 x5_1).f0)).f0)) || (!(((J67 l0 x5_1).f2.f1) == ((J33 x4_1 ((J67 l0 x5_1).f0)).f1)) || (!(((J67 l0 x5_1).f2.f2) == ((J33 x4_1 ((J67 l0 x5_1).f0)).f2)) || (!(((J67 l0 x5_1).f2.f3) == ((J33 x4_1 ((J67 l0 x5_1).f0)).f3)))))) = true
              ·
               rw [if_pos c35] at H
               have c35b0 : (!(((J67 l0 x5_1).f2.f0) == ((J33 x4_1 ((J67 l0 x5_1).f0)).f0)) || (!(((J67 l0 x5_1).f2.f1) == ((J33 x4_1 ((J67 l0 x5_1).f0)).f1)) || (!(((J67 l0 x5_1).f2.f2) == ((J33 x4_1 ((J67 l0 x5_1).f0)).f2)) || (!(((J67 l0 x5_1).f2.f3) == ((J33 x4_1 ((J67 l0 x5_1).f0)).f3)))))) = true := c35
               clear c35
               obtain rfl := Option.some.inj H
               try go_wp2
               have n0_ := asd (Kd.R_drew HO_3.out)
               have n1_ := asd (Kd.R_drew HO_4.out)
               have n2_ := asd (blk_drew BK152.out)
               have n3_ := asd (below_drew1 HB.out)
               clear HO_3
               clear HO_4
               clear BK152
               clear HB
               have HO_3 := n0_
               have HO_4 := n1_
               have BK152 := n2_
               have HB := n3_
               clear n0_ n1_ n2_ n3_
               obtain ⟨Ao37, co37, eo37⟩ := Kd.R_slice HO_4.out
               (first | subst eo37 | (injection eo37 with f1_ f2_ f3_; have f4_ := f1_.symm; have f5_ := f3_.symm; clear f1_ f2_ f3_; subst f4_; subst f5_))
               have p154 : 0 ≤ (((J67 l0 x5_1).f0) : Int) := dt
               have q154 : ((J67 l0 x5_1).f0) < (x4_1.length : Int) := dt
               obtain ⟨ad154, e154, hx154_0, hx154_1, hx154_2, hx154_3⟩ := at_T33 (Kd.R_reads' HO_4.out).2.2 ((J67 l0 x5_1).f0) p154 q154
               cases e154
               replace p154 := eq_true p154
               replace q154 := eq_true q154
               refine start_ (n := 24) (S := fun w' => w'.cell? ⟨gb152, 0, none⟩ = some (.int .i64 ((J67 l0 x5_1).f0)) ∧ w'.cell? ⟨gb152, 1, none⟩ = some (.bool ((J67 l0 x5_1).f1)) ∧ w'.cell? ⟨gb152, 2, none⟩ = some (.int .i64 ((J67 l0 x5_1).f2.f0)) ∧ w'.cell? ⟨gb152, 3, none⟩ = some (.int .i64 ((J67 l0 x5_1).f2.f1)) ∧ w'.cell? ⟨gb152, 4, none⟩ = some (.int .i64 ((J67 l0 x5_1).f2.f2)) ∧ w'.cell? ⟨gb152, 5, none⟩ = some (.int .i64 ((J67 l0 x5_1).f2.f3)) ∧ w'.cell? ⟨gb152, 6, none⟩ = some (.bool ((J67 l0 x5_1).f3.f0)) ∧ w'.cell? ⟨gb152, 7, none⟩ = some (.int .i64 ((J67 l0 x5_1).f3.f1)) ∧ w'.cell? ⟨gb152, 8, none⟩ = some (.int .i64 ((J67 l0 x5_1).f3.f2)) ∧ w'.cell? ⟨gb152, 9, none⟩ = some (.slice A151_9 ((J67 l0 x5_1).f3.f3).length c151_9) ∧ w'.cell? (ad154.add ((((J67 l0 x5_1).f0)).toNat * 4)) = some (.int .i64 ((J33 x4_1 ((J67 l0 x5_1).f0)).f0)) ∧ w'.cell? ⟨(ad154.add ((((J67 l0 x5_1).f0)).toNat * 4)).block, (ad154.add ((((J67 l0 x5_1).f0)).toNat * 4)).off + 1, none⟩ = some (.int .i64 ((J33 x4_1 ((J67 l0 x5_1).f0)).f1)) ∧ w'.cell? ⟨(ad154.add ((((J67 l0 x5_1).f0)).toNat * 4)).block, (ad154.add ((((J67 l0 x5_1).f0)).toNat * 4)).off + 2, none⟩ = some (.int .i64 ((J33 x4_1 ((J67 l0 x5_1).f0)).f2)) ∧ w'.cell? ⟨(ad154.add ((((J67 l0 x5_1).f0)).toNat * 4)).block, (ad154.add ((((J67 l0 x5_1).f0)).toNat * 4)).off + 3, none⟩ = some (.int .i64 ((J33 x4_1 ((J67 l0 x5_1).f0)).f3))) (ds := []) #[false,false,false,false,false,false,false,false,false,false,false,false,false,false,false,false,false,false,false,false,false,false,false,false] (by kernel_rfl) rfl rfl ⟨(blk_cell BK152.out 0).trans rfl, (blk_cell BK152.out 1).trans rfl, (blk_cell BK152.out 2).trans rfl, (blk_cell BK152.out 3).trans rfl, (blk_cell BK152.out 4).trans rfl, (blk_cell BK152.out 5).trans rfl, (blk_cell BK152.out 6).trans rfl, (blk_cell BK152.out 7).trans rfl, (blk_cell BK152.out 8).trans rfl, (blk_cell BK152.out 9).trans rfl, hx154_0, hx154_1, hx154_2, hx154_3⟩ (fun hHeld => ?_); refine with_tabW larchref05_Check.tab11 larchref05_Check.bits11 (fun HT_ HW_ => ?_)
               generalize wc.drew = w36 at HO_3 HO_4 BK152 HB hx154_0 hx154_1 hx154_2 hx154_3 hHeld ⊢
               refine pure_ (i := 0) (N := some 52) (v := ?_) (a' := ?_) #[true,false,false,false,false,false,false,false,false,false,false,false,false,false,false,false,false,false,false,false,false,false,false,false] rfl rfl (aK HT_.out) (fun _ _ _ h => h) (Or.inl ⟨by rfl, ?_⟩) ?_ ?_
               rotate_left
               ·
                intro w'
                go_simp
                with_reducible rfl
               rotate_left
               ·
                simp only [Act.put, sp]
                rfl
               refine take_ (i := 1) (N := some 53) (v := ?_) (a' := ?_) #[true,true,false,false,false,false,false,false,false,false,false,false,false,false,false,false,false,false,false,false,false,false,false,false] rfl rfl (take_ofW HT_.out HW_.out (by kernel_rfl)) (fun _ _ _ h => h) (Or.inl ⟨by rfl, ?_⟩) hHeld ?_ ?_
               rotate_left
               ·
                rintro w' ⟨s0, s1, s2, s3, s4, s5, s6, s7, s8, s9, s10, s11, s12, s13⟩
                go_simp
                with_reducible rfl
               rotate_left
               ·
                simp only [Act.put, sp]
                rfl
               refine pure_ (i := 2) (N := some 54) (v := ?_) (a' := ?_) #[true,true,true,false,false,false,false,false,false,false,false,false,false,false,false,false,false,false,false,false,false,false,false,false] rfl rfl (aK HT_.out) (fun _ _ _ h => h) (Or.inl ⟨by rfl, ?_⟩) ?_ ?_
               rotate_left
               ·
                intro w'
                go_simp
                with_reducible rfl
               rotate_left
               ·
                simp only [Act.put, sp]
                rfl
               refine pure_ (i := 3) (N := some 55) (v := ?_) (a' := ?_) #[true,true,true,true,false,false,false,false,false,false,false,false,false,false,false,false,false,false,false,false,false,false,false,false] rfl rfl (aK HT_.out) (fun _ _ _ h => h) (Or.inl ⟨by rfl, ?_⟩) ?_ ?_
               rotate_left
               ·
                intro w'
                go_simp
                with_reducible rfl
               rotate_left
               ·
                simp only [Act.put, sp]
                rfl
               refine pure_ (i := 5) (N := some 57) (v := ?_) (a' := ?_) #[true,true,true,true,false,true,false,false,false,false,false,false,false,false,false,false,false,false,false,false,false,false,false,false] rfl rfl (aK HT_.out) (fun _ _ _ h => h) (Or.inl ⟨by rfl, ?_⟩) ?_ ?_
               rotate_left
               ·
                intro w'
                go_simp
                with_reducible rfl
               rotate_left
               ·
                simp only [Act.put, sp]
                rfl
               refine pure_ (i := 6) (N := some 58) (v := ?_) (a' := ?_) #[true,true,true,true,false,true,true,false,false,false,false,false,false,false,false,false,false,false,false,false,false,false,false,false] rfl rfl (aK HT_.out) (fun _ _ _ h => h) (Or.inl ⟨by rfl, ?_⟩) ?_ ?_
               rotate_left
               ·
                intro w'
                go_simp
                with_reducible rfl
               rotate_left
               ·
                simp only [Act.put, sp]
                rfl
               refine take_ (i := 4) (N := some 56) (v := ?_) (a' := ?_) #[true,true,true,true,true,true,true,false,false,false,false,false,false,false,false,false,false,false,false,false,false,false,false,false] rfl rfl (take_ofW HT_.out HW_.out (by kernel_rfl)) (fun _ _ _ h => h) (Or.inl ⟨by rfl, ?_⟩) hHeld ?_ ?_
               rotate_left
               ·
                rintro w' ⟨s0, s1, s2, s3, s4, s5, s6, s7, s8, s9, s10, s11, s12, s13⟩
                go_simp
                with_reducible rfl
               rotate_left
               ·
                simp only [Act.put, sp]
                rfl
               refine take_ (i := 7) (N := some 59) (v := ?_) (a' := ?_) #[true,true,true,true,true,true,true,true,false,false,false,false,false,false,false,false,false,false,false,false,false,false,false,false] rfl rfl (take_ofW HT_.out HW_.out (by kernel_rfl)) (fun _ _ _ h => h) (Or.inl ⟨by rfl, ?_⟩) hHeld ?_ ?_
               rotate_left
               ·
                rintro w' ⟨s0, s1, s2, s3, s4, s5, s6, s7, s8, s9, s10, s11, s12, s13⟩
                go_simp
                with_reducible rfl
               rotate_left
               ·
                simp only [Act.put, sp]
                rfl
               refine pure_ (i := 8) (N := some 60) (v := ?_) (a' := ?_) #[true,true,true,true,true,true,true,true,true,false,false,false,false,false,false,false,false,false,false,false,false,false,false,false] rfl rfl (aK HT_.out) (fun _ _ _ h => h) (Or.inl ⟨by rfl, ?_⟩) ?_ ?_
               rotate_left
               ·
                intro w'
                go_simp
                with_reducible rfl
               rotate_left
               ·
                simp only [Act.put, sp]
                rfl
               refine take_ (i := 9) (N := some 61) (v := ?_) (a' := ?_) #[true,true,true,true,true,true,true,true,true,true,false,false,false,false,false,false,false,false,false,false,false,false,false,false] rfl rfl (take_ofW HT_.out HW_.out (by kernel_rfl)) (fun _ _ _ h => h) (Or.inl ⟨by rfl, ?_⟩) hHeld ?_ ?_
               rotate_left
               ·
                rintro w' ⟨s0, s1, s2, s3, s4, s5, s6, s7, s8, s9, s10, s11, s12, s13⟩
                go_simp
                with_reducible rfl
               rotate_left
               ·
                simp only [Act.put, sp]
                rfl
               refine pure_ (i := 10) (N := some 62) (v := ?_) (a' := ?_) #[true,true,true,true,true,true,true,true,true,true,true,false,false,false,false,false,false,false,false,false,false,false,false,false] rfl rfl (aK HT_.out) (fun _ _ _ h => h) (Or.inl ⟨by rfl, ?_⟩) ?_ ?_
               rotate_left
               ·
                intro w'
                go_simp
                with_reducible rfl
               rotate_left
               ·
                simp only [Act.put, sp]
                rfl
               refine pure_ (i := 11) (N := some 63) (v := ?_) (a' := ?_) #[true,true,true,true,true,true,true,true,true,true,true,true,false,false,false,false,false,false,false,false,false,false,false,false] rfl rfl (aK HT_.out) (fun _ _ _ h => h) (Or.inl ⟨by rfl, ?_⟩) ?_ ?_
               rotate_left
               ·
                intro w'
                go_simp
                with_reducible rfl
               rotate_left
               ·
                simp only [Act.put, sp]
                rfl
               refine pure_ (i := 12) (N := some 64) (v := ?_) (a' := ?_) #[true,true,true,true,true,true,true,true,true,true,true,true,true,false,false,false,false,false,false,false,false,false,false,false] rfl rfl (aK HT_.out) (fun _ _ _ h => h) (Or.inl ⟨by rfl, ?_⟩) ?_ ?_
               rotate_left
               ·
                intro w'
                go_simp
                with_reducible rfl
               rotate_left
               ·
                simp only [Act.put, sp]
                rfl
               refine pure_ (i := 13) (N := some 65) (v := undef) (a' := ?_) #[true,true,true,true,true,true,true,true,true,true,true,true,true,true,false,false,false,false,false,false,false,false,false,false] rfl rfl (aK HT_.out) (fun _ _ _ h => h) (Or.inr ⟨by rfl, rfl⟩) ?_ ?_
               rotate_left
               ·
                simp only [Act.put, sp]
                rfl
               refine pure_ (i := 14) (N := some 66) (v := undef) (a' := ?_) #[true,true,true,true,true,true,true,true,true,true,true,true,true,true,true,false,false,false,false,false,false,false,false,false] rfl rfl (aK HT_.out) (fun _ _ _ h => h) (Or.inr ⟨by rfl, rfl⟩) ?_ ?_
               rotate_left
               ·
                simp only [Act.put, sp]
                rfl
               refine pure_ (i := 15) (N := some 67) (v := undef) (a' := ?_) #[true,true,true,true,true,true,true,true,true,true,true,true,true,true,true,true,false,false,false,false,false,false,false,false] rfl rfl (aK HT_.out) (fun _ _ _ h => h) (Or.inr ⟨by rfl, rfl⟩) ?_ ?_
               rotate_left
               ·
                simp only [Act.put, sp]
                rfl
               refine pure_ (i := 16) (N := some 68) (v := undef) (a' := ?_) #[true,true,true,true,true,true,true,true,true,true,true,true,true,true,true,true,true,false,false,false,false,false,false,false] rfl rfl (aK HT_.out) (fun _ _ _ h => h) (Or.inr ⟨by rfl, rfl⟩) ?_ ?_
               rotate_left
               ·
                simp only [Act.put, sp]
                rfl
               refine pure_ (i := 17) (N := some 69) (v := undef) (a' := ?_) #[true,true,true,true,true,true,true,true,true,true,true,true,true,true,true,true,true,true,false,false,false,false,false,false] rfl rfl (aK HT_.out) (fun _ _ _ h => h) (Or.inr ⟨by rfl, rfl⟩) ?_ ?_
               rotate_left
               ·
                simp only [Act.put, sp]
                rfl
               refine pure_ (i := 18) (N := some 70) (v := undef) (a' := ?_) #[true,true,true,true,true,true,true,true,true,true,true,true,true,true,true,true,true,true,true,false,false,false,false,false] rfl rfl (aK HT_.out) (fun _ _ _ h => h) (Or.inr ⟨by rfl, rfl⟩) ?_ ?_
               rotate_left
               ·
                simp only [Act.put, sp]
                rfl
               refine pure_ (i := 19) (N := some 71) (v := undef) (a' := ?_) #[true,true,true,true,true,true,true,true,true,true,true,true,true,true,true,true,true,true,true,true,false,false,false,false] rfl rfl (aK HT_.out) (fun _ _ _ h => h) (Or.inr ⟨by rfl, rfl⟩) ?_ ?_
               rotate_left
               ·
                simp only [Act.put, sp]
                rfl
               refine pure_ (i := 20) (N := some 72) (v := undef) (a' := ?_) #[true,true,true,true,true,true,true,true,true,true,true,true,true,true,true,true,true,true,true,true,true,false,false,false] rfl rfl (aK HT_.out) (fun _ _ _ h => h) (Or.inr ⟨by rfl, rfl⟩) ?_ ?_
               rotate_left
               ·
                simp only [Act.put, sp]
                rfl
               refine pure_ (i := 21) (N := some 73) (v := undef) (a' := ?_) #[true,true,true,true,true,true,true,true,true,true,true,true,true,true,true,true,true,true,true,true,true,true,false,false] rfl rfl (aK HT_.out) (fun _ _ _ h => h) (Or.inr ⟨by rfl, rfl⟩) ?_ ?_
               rotate_left
               ·
                simp only [Act.put, sp]
                rfl
               refine pure_ (i := 22) (N := some 74) (v := undef) (a' := ?_) #[true,true,true,true,true,true,true,true,true,true,true,true,true,true,true,true,true,true,true,true,true,true,true,false] rfl rfl (aK HT_.out) (fun _ _ _ h => h) (Or.inr ⟨by rfl, rfl⟩) ?_ ?_
               rotate_left
               ·
                simp only [Act.put, sp]
                rfl
               refine pure_ (i := 23) (N := some 75) (v := ?_) (a' := ?_) #[true,true,true,true,true,true,true,true,true,true,true,true,true,true,true,true,true,true,true,true,true,true,true,true] rfl rfl (aK HT_.out) (fun _ _ _ h => h) (Or.inl ⟨by rfl, ?_⟩) ?_ ?_
               rotate_left
               ·
                intro w'
                go_simp
                with_reducible rfl
               rotate_left
               ·
                simp only [Act.put, sp]
                rfl
               refine done_ (done_of HT_.out (by kernel_rfl)) ?_
               try go_wp2
               go_ret
               exact ⟨re, skG HB.out GE152.out GE152.out⟩
              ·
               rw [if_neg c35] at H
               have c35b0 : (!(((J67 l0 x5_1).f2.f0) == ((J33 x4_1 ((J67 l0 x5_1).f0)).f0)) || (!(((J67 l0 x5_1).f2.f1) == ((J33 x4_1 ((J67 l0 x5_1).f0)).f1)) || (!(((J67 l0 x5_1).f2.f2) == ((J33 x4_1 ((J67 l0 x5_1).f0)).f2)) || (!(((J67 l0 x5_1).f2.f3) == ((J33 x4_1 ((J67 l0 x5_1).f0)).f3)))))) = false := by simpa using c35
               clear c35
               by_cases c38 : ((J67 l0 x5_1).f0) < (x3_1.length : Int)
               ·
                rw [if_pos c38] at H
                have c38b0 : decide (((J67 l0 x5_1).f0) < (x3_1.length : Int)) = true := decide_eq_true c38
                clear c38
                obtain ⟨y155, hy155⟩ : ∃ y_ : List Bool, y_ = (x3_1.set (((J67 l0 x5_1).f0) : Int).toNat (!((J67 l0 x5_1).f1))) := ⟨_, rfl⟩
                replace H : (larchref05_Check.l0 kj10 l0 y155 (x4_1.set (((J67 l0 x5_1).f0) : Int).toNat (⟨((J67 l0 x5_1).f2.f0), ((J67 l0 x5_1).f2.f1), ((J67 l0 x5_1).f2.f2), ((J67 l0 x5_1).f2.f3)⟩ : S33)) (wrap64 (x5_1 + 1))) = some r := by first | (rw [hy155]; with_reducible exact H) | (have H2_ := (Option.bind_some _ _).symm.trans H; rw [hy155]; with_reducible exact H2_) | (have H2_ := (Option.bind_some _ _).symm.trans H; with_reducible exact H2_) | with_reducible exact H | (rw [hy155]; exact H) | exact H
                have Ny155 := asd hy155
                clear hy155
                obtain ⟨y156, hy156⟩ : ∃ y_ : List (S33), y_ = (x4_1.set (((J67 l0 x5_1).f0) : Int).toNat (⟨((J67 l0 x5_1).f2.f0), ((J67 l0 x5_1).f2.f1), ((J67 l0 x5_1).f2.f2), ((J67 l0 x5_1).f2.f3)⟩ : S33)) := ⟨_, rfl⟩
                replace H : (larchref05_Check.l0 kj10 l0 y155 y156 (wrap64 (x5_1 + 1))) = some r := by first | (rw [hy156]; with_reducible exact H) | (have H2_ := (Option.bind_some _ _).symm.trans H; rw [hy156]; with_reducible exact H2_) | (have H2_ := (Option.bind_some _ _).symm.trans H; with_reducible exact H2_) | with_reducible exact H | (rw [hy156]; exact H) | exact H
                have Ny156 := asd hy156
                clear hy156
                have H' := asd H
                clear H
                try go_wp2
                have n0_ := asd (Kd.R_drew HO_3.out)
                have n1_ := asd (Kd.R_drew HO_4.out)
                have n2_ := asd (blk_drew BK152.out)
                have n3_ := asd (below_drew1 HB.out)
                clear HO_3
                clear HO_4
                clear BK152
                clear HB
                have HO_3 := n0_
                have HO_4 := n1_
                have BK152 := n2_
                have HB := n3_
                clear n0_ n1_ n2_ n3_
                obtain ⟨Ao42, co42, eo42⟩ := Kd.R_slice HO_4.out
                (first | subst eo42 | (injection eo42 with f1_ f2_ f3_; have f4_ := f1_.symm; have f5_ := f3_.symm; clear f1_ f2_ f3_; subst f4_; subst f5_))
                have p154 : 0 ≤ (((J67 l0 x5_1).f0) : Int) := dt
                have q154 : ((J67 l0 x5_1).f0) < (x4_1.length : Int) := dt
                obtain ⟨ad154, e154, hx154_0, hx154_1, hx154_2, hx154_3⟩ := at_T33 (Kd.R_reads' HO_4.out).2.2 ((J67 l0 x5_1).f0) p154 q154
                cases e154
                replace p154 := eq_true p154
                replace q154 := eq_true q154
                refine start_ (n := 24) (S := fun w' => w'.cell? ⟨gb152, 0, none⟩ = some (.int .i64 ((J67 l0 x5_1).f0)) ∧ w'.cell? ⟨gb152, 1, none⟩ = some (.bool ((J67 l0 x5_1).f1)) ∧ w'.cell? ⟨gb152, 2, none⟩ = some (.int .i64 ((J67 l0 x5_1).f2.f0)) ∧ w'.cell? ⟨gb152, 3, none⟩ = some (.int .i64 ((J67 l0 x5_1).f2.f1)) ∧ w'.cell? ⟨gb152, 4, none⟩ = some (.int .i64 ((J67 l0 x5_1).f2.f2)) ∧ w'.cell? ⟨gb152, 5, none⟩ = some (.int .i64 ((J67 l0 x5_1).f2.f3)) ∧ w'.cell? ⟨gb152, 6, none⟩ = some (.bool ((J67 l0 x5_1).f3.f0)) ∧ w'.cell? ⟨gb152, 7, none⟩ = some (.int .i64 ((J67 l0 x5_1).f3.f1)) ∧ w'.cell? ⟨gb152, 8, none⟩ = some (.int .i64 ((J67 l0 x5_1).f3.f2)) ∧ w'.cell? ⟨gb152, 9, none⟩ = some (.slice A151_9 ((J67 l0 x5_1).f3.f3).length c151_9) ∧ w'.cell? (ad154.add ((((J67 l0 x5_1).f0)).toNat * 4)) = some (.int .i64 ((J33 x4_1 ((J67 l0 x5_1).f0)).f0)) ∧ w'.cell? ⟨(ad154.add ((((J67 l0 x5_1).f0)).toNat * 4)).block, (ad154.add ((((J67 l0 x5_1).f0)).toNat * 4)).off + 1, none⟩ = some (.int .i64 ((J33 x4_1 ((J67 l0 x5_1).f0)).f1)) ∧ w'.cell? ⟨(ad154.add ((((J67 l0 x5_1).f0)).toNat * 4)).block, (ad154.add ((((J67 l0 x5_1).f0)).toNat * 4)).off + 2, none⟩ = some (.int .i64 ((J33 x4_1 ((J67 l0 x5_1).f0)).f2)) ∧ w'.cell? ⟨(ad154.add ((((J67 l0 x5_1).f0)).toNat * 4)).block, (ad154.add ((((J67 l0 x5_1).f0)).toNat * 4)).off + 3, none⟩ = some (.int .i64 ((J33 x4_1 ((J67 l0 x5_1).f0)).f3))) (ds := []) #[false,false,false,false,false,false,false,false,false,false,false,false,false,false,false,false,false,false,false,false,false,false,false,false] (by kernel_rfl) rfl rfl ⟨(blk_cell BK152.out 0).trans rfl, (blk_cell BK152.out 1).trans rfl, (blk_cell BK152.out 2).trans rfl, (blk_cell BK152.out 3).trans rfl, (blk_cell BK152.out 4).trans rfl, (blk_cell BK152.out 5).trans rfl, (blk_cell BK152.out 6).trans rfl, (blk_cell BK152.out 7).trans rfl, (blk_cell BK152.out 8).trans rfl, (blk_cell BK152.out 9).trans rfl, hx154_0, hx154_1, hx154_2, hx154_3⟩ (fun hHeld => ?_); refine with_tabW larchref05_Check.tab11 larchref05_Check.bits11 (fun HT_ HW_ => ?_)
                generalize wc.drew = w41 at HO_3 HO_4 BK152 HB hx154_0 hx154_1 hx154_2 hx154_3 hHeld ⊢
                refine pure_ (i := 0) (N := some 52) (v := ?_) (a' := ?_) #[true,false,false,false,false,false,false,false,false,false,false,false,false,false,false,false,false,false,false,false,false,false,false,false] rfl rfl (aK HT_.out) (fun _ _ _ h => h) (Or.inl ⟨by rfl, ?_⟩) ?_ ?_
                rotate_left
                ·
                 intro w'
                 go_simp
                 with_reducible rfl
                rotate_left
                ·
                 simp only [Act.put, sp]
                 rfl
                refine take_ (i := 1) (N := some 53) (v := ?_) (a' := ?_) #[true,true,false,false,false,false,false,false,false,false,false,false,false,false,false,false,false,false,false,false,false,false,false,false] rfl rfl (take_ofW HT_.out HW_.out (by kernel_rfl)) (fun _ _ _ h => h) (Or.inl ⟨by rfl, ?_⟩) hHeld ?_ ?_
                rotate_left
                ·
                 rintro w' ⟨s0, s1, s2, s3, s4, s5, s6, s7, s8, s9, s10, s11, s12, s13⟩
                 go_simp
                 with_reducible rfl
                rotate_left
                ·
                 simp only [Act.put, sp]
                 rfl
                refine pure_ (i := 2) (N := some 54) (v := ?_) (a' := ?_) #[true,true,true,false,false,false,false,false,false,false,false,false,false,false,false,false,false,false,false,false,false,false,false,false] rfl rfl (aK HT_.out) (fun _ _ _ h => h) (Or.inl ⟨by rfl, ?_⟩) ?_ ?_
                rotate_left
                ·
                 intro w'
                 go_simp
                 with_reducible rfl
                rotate_left
                ·
                 simp only [Act.put, sp]
                 rfl
                refine pure_ (i := 3) (N := some 55) (v := ?_) (a' := ?_) #[true,true,true,true,false,false,false,false,false,false,false,false,false,false,false,false,false,false,false,false,false,false,false,false] rfl rfl (aK HT_.out) (fun _ _ _ h => h) (Or.inl ⟨by rfl, ?_⟩) ?_ ?_
                rotate_left
                ·
                 intro w'
                 go_simp
                 with_reducible rfl
                rotate_left
                ·
                 simp only [Act.put, sp]
                 rfl
                refine pure_ (i := 5) (N := some 57) (v := ?_) (a' := ?_) #[true,true,true,true,false,true,false,false,false,false,false,false,false,false,false,false,false,false,false,false,false,false,false,false] rfl rfl (aK HT_.out) (fun _ _ _ h => h) (Or.inl ⟨by rfl, ?_⟩) ?_ ?_
                rotate_left
                ·
                 intro w'
                 go_simp
                 with_reducible rfl
                rotate_left
                ·
                 simp only [Act.put, sp]
                 rfl
                refine pure_ (i := 6) (N := some 58) (v := ?_) (a' := ?_) #[true,true,true,true,false,true,true,false,false,false,false,false,false,false,false,false,false,false,false,false,false,false,false,false] rfl rfl (aK HT_.out) (fun _ _ _ h => h) (Or.inl ⟨by rfl, ?_⟩) ?_ ?_
                rotate_left
                ·
                 intro w'
                 go_simp
                 with_reducible rfl
                rotate_left
                ·
                 simp only [Act.put, sp]
                 rfl
                refine take_ (i := 4) (N := some 56) (v := ?_) (a' := ?_) #[true,true,true,true,true,true,true,false,false,false,false,false,false,false,false,false,false,false,false,false,false,false,false,false] rfl rfl (take_ofW HT_.out HW_.out (by kernel_rfl)) (fun _ _ _ h => h) (Or.inl ⟨by rfl, ?_⟩) hHeld ?_ ?_
                rotate_left
                ·
                 rintro w' ⟨s0, s1, s2, s3, s4, s5, s6, s7, s8, s9, s10, s11, s12, s13⟩
                 go_simp
                 with_reducible rfl
                rotate_left
                ·
                 simp only [Act.put, sp]
                 rfl
                refine take_ (i := 7) (N := some 59) (v := ?_) (a' := ?_) #[true,true,true,true,true,true,true,true,false,false,false,false,false,false,false,false,false,false,false,false,false,false,false,false] rfl rfl (take_ofW HT_.out HW_.out (by kernel_rfl)) (fun _ _ _ h => h) (Or.inl ⟨by rfl, ?_⟩) hHeld ?_ ?_
                rotate_left
                ·
                 rintro w' ⟨s0, s1, s2, s3, s4, s5, s6, s7, s8, s9, s10, s11, s12, s13⟩
                 go_simp
                 with_reducible rfl
                rotate_left
                ·
                 simp only [Act.put, sp]
                 rfl
                refine pure_ (i := 8) (N := some 60) (v := ?_) (a' := ?_) #[true,true,true,true,true,true,true,true,true,false,false,false,false,false,false,false,false,false,false,false,false,false,false,false] rfl rfl (aK HT_.out) (fun _ _ _ h => h) (Or.inl ⟨by rfl, ?_⟩) ?_ ?_
                rotate_left
                ·
                 intro w'
                 go_simp
                 with_reducible rfl
                rotate_left
                ·
                 simp only [Act.put, sp]
                 rfl
                refine take_ (i := 9) (N := some 61) (v := ?_) (a' := ?_) #[true,true,true,true,true,true,true,true,true,true,false,false,false,false,false,false,false,false,false,false,false,false,false,false] rfl rfl (take_ofW HT_.out HW_.out (by kernel_rfl)) (fun _ _ _ h => h) (Or.inl ⟨by rfl, ?_⟩) hHeld ?_ ?_
                rotate_left
                ·
                 rintro w' ⟨s0, s1, s2, s3, s4, s5, s6, s7, s8, s9, s10, s11, s12, s13⟩
                 go_simp
                 with_reducible rfl
                rotate_left
                ·
                 simp only [Act.put, sp]
                 rfl
                refine pure_ (i := 10) (N := some 62) (v := ?_) (a' := ?_) #[true,true,true,true,true,true,true,true,true,true,true,false,false,false,false,false,false,false,false,false,false,false,false,false] rfl rfl (aK HT_.out) (fun _ _ _ h => h) (Or.inl ⟨by rfl, ?_⟩) ?_ ?_
                rotate_left
                ·
                 intro w'
                 go_simp
                 with_reducible rfl
                rotate_left
                ·
                 simp only [Act.put, sp]
                 rfl
                refine pure_ (i := 11) (N := some 63) (v := ?_) (a' := ?_) #[true,true,true,true,true,true,true,true,true,true,true,true,false,false,false,false,false,false,false,false,false,false,false,false] rfl rfl (aK HT_.out) (fun _ _ _ h => h) (Or.inl ⟨by rfl, ?_⟩) ?_ ?_
                rotate_left
                ·
                 intro w'
                 go_simp
                 with_reducible rfl
                rotate_left
                ·
                 simp only [Act.put, sp]
                 rfl
                refine pure_ (i := 12) (N := some 64) (v := ?_) (a' := ?_) #[true,true,true,true,true,true,true,true,true,true,true,true,true,false,false,false,false,false,false,false,false,false,false,false] rfl rfl (aK HT_.out) (fun _ _ _ h => h) (Or.inl ⟨by rfl, ?_⟩) ?_ ?_
                rotate_left
                ·
                 intro w'
                 go_simp
                 with_reducible rfl
                rotate_left
                ·
                 simp only [Act.put, sp]
                 rfl
                refine pure_ (i := 13) (N := some 65) (v := ?_) (a' := ?_) #[true,true,true,true,true,true,true,true,true,true,true,true,true,true,false,false,false,false,false,false,false,false,false,false] rfl rfl (aK HT_.out) (fun _ _ _ h => h) (Or.inl ⟨by rfl, ?_⟩) ?_ ?_
                rotate_left
                ·
                 intro w'
                 go_simp
                 with_reducible rfl
                rotate_left
                ·
                 simp only [Act.put, sp]
                 rfl
                refine take_ (i := 14) (N := some 66) (v := ?_) (a' := ?_) #[true,true,true,true,true,true,true,true,true,true,true,true,true,true,true,false,false,false,false,false,false,false,false,false] rfl rfl (take_ofW HT_.out HW_.out (by kernel_rfl)) (fun _ _ _ h => h) (Or.inl ⟨by rfl, ?_⟩) hHeld ?_ ?_
                rotate_left
                ·
                 rintro w' ⟨s0, s1, s2, s3, s4, s5, s6, s7, s8, s9, s10, s11, s12, s13⟩
                 go_simp
                 with_reducible rfl
                rotate_left
                ·
                 simp only [Act.put, sp]
                 rfl
                refine pure_ (i := 15) (N := some 67) (v := ?_) (a' := ?_) #[true,true,true,true,true,true,true,true,true,true,true,true,true,true,true,true,false,false,false,false,false,false,false,false] rfl rfl (aK HT_.out) (fun _ _ _ h => h) (Or.inl ⟨by rfl, ?_⟩) ?_ ?_
                rotate_left
                ·
                 intro w'
                 go_simp
                 with_reducible rfl
                rotate_left
                ·
                 simp only [Act.put, sp]
                 rfl
                refine pure_ (i := 16) (N := some 68) (v := ?_) (a' := ?_) #[true,true,true,true,true,true,true,true,true,true,true,true,true,true,true,true,true,false,false,false,false,false,false,false] rfl rfl (aK HT_.out) (fun _ _ _ h => h) (Or.inl ⟨by rfl, ?_⟩) ?_ ?_
                rotate_left
                ·
                 intro w'
                 go_simp
                 with_reducible rfl
                rotate_left
                ·
                 simp only [Act.put, sp]
                 rfl
                refine pure_ (i := 17) (N := some 69) (v := undef) (a' := ?_) #[true,true,true,true,true,true,true,true,true,true,true,true,true,true,true,true,true,true,false,false,false,false,false,false] rfl rfl (aK HT_.out) (fun _ _ _ h => h) (Or.inr ⟨by rfl, rfl⟩) ?_ ?_
                rotate_left
                ·
                 simp only [Act.put, sp]
                 rfl
                refine pure_ (i := 18) (N := some 70) (v := undef) (a' := ?_) #[true,true,true,true,true,true,true,true,true,true,true,true,true,true,true,true,true,true,true,false,false,false,false,false] rfl rfl (aK HT_.out) (fun _ _ _ h => h) (Or.inr ⟨by rfl, rfl⟩) ?_ ?_
                rotate_left
                ·
                 simp only [Act.put, sp]
                 rfl
                refine pure_ (i := 19) (N := some 71) (v := undef) (a' := ?_) #[true,true,true,true,true,true,true,true,true,true,true,true,true,true,true,true,true,true,true,true,false,false,false,false] rfl rfl (aK HT_.out) (fun _ _ _ h => h) (Or.inr ⟨by rfl, rfl⟩) ?_ ?_
                rotate_left
                ·
                 simp only [Act.put, sp]
                 rfl
                refine pure_ (i := 20) (N := some 72) (v := undef) (a' := ?_) #[true,true,true,true,true,true,true,true,true,true,true,true,true,true,true,true,true,true,true,true,true,false,false,false] rfl rfl (aK HT_.out) (fun _ _ _ h => h) (Or.inr ⟨by rfl, rfl⟩) ?_ ?_
                rotate_left
                ·
                 simp only [Act.put, sp]
                 rfl
                refine pure_ (i := 21) (N := some 73) (v := undef) (a' := ?_) #[true,true,true,true,true,true,true,true,true,true,true,true,true,true,true,true,true,true,true,true,true,true,false,false] rfl rfl (aK HT_.out) (fun _ _ _ h => h) (Or.inr ⟨by rfl, rfl⟩) ?_ ?_
                rotate_left
                ·
                 simp only [Act.put, sp]
                 rfl
                refine pure_ (i := 22) (N := some 74) (v := ?_) (a' := ?_) #[true,true,true,true,true,true,true,true,true,true,true,true,true,true,true,true,true,true,true,true,true,true,true,false] rfl rfl (aK HT_.out) (fun _ _ _ h => h) (Or.inl ⟨by rfl, ?_⟩) ?_ ?_
                rotate_left
                ·
                 intro w'
                 go_simp
                 with_reducible rfl
                rotate_left
                ·
                 simp only [Act.put, sp]
                 rfl
                refine pure_ (i := 23) (N := some 75) (v := ?_) (a' := ?_) #[true,true,true,true,true,true,true,true,true,true,true,true,true,true,true,true,true,true,true,true,true,true,true,true] rfl rfl (aK HT_.out) (fun _ _ _ h => h) (Or.inl ⟨by rfl, ?_⟩) ?_ ?_
                rotate_left
                ·
                 intro w'
                 go_simp
                 with_reducible rfl
                rotate_left
                ·
                 simp only [Act.put, sp]
                 rfl
                refine done_ (done_of HT_.out (by kernel_rfl)) ?_
                have hcz43_0 : w41.cell? ⟨gb152, 0, none⟩ = some (.int .i64 ((J67 l0 x5_1).f0)) := (blk_cell BK152.out 0).trans rfl
                have hcz43_1 : w41.cell? ⟨gb152, 1, none⟩ = some (.bool ((J67 l0 x5_1).f1)) := (blk_cell BK152.out 1).trans rfl
                have hcz43_2 : w41.cell? ⟨gb152, 2, none⟩ = some (.int .i64 ((J67 l0 x5_1).f2.f0)) := (blk_cell BK152.out 2).trans rfl
                have hcz43_3 : w41.cell? ⟨gb152, 3, none⟩ = some (.int .i64 ((J67 l0 x5_1).f2.f1)) := (blk_cell BK152.out 3).trans rfl
                have hcz43_4 : w41.cell? ⟨gb152, 4, none⟩ = some (.int .i64 ((J67 l0 x5_1).f2.f2)) := (blk_cell BK152.out 4).trans rfl
                have hcz43_5 : w41.cell? ⟨gb152, 5, none⟩ = some (.int .i64 ((J67 l0 x5_1).f2.f3)) := (blk_cell BK152.out 5).trans rfl
                have hcz43_6 : w41.cell? ⟨gb152, 6, none⟩ = some (.bool ((J67 l0 x5_1).f3.f0)) := (blk_cell BK152.out 6).trans rfl
                have hcz43_7 : w41.cell? ⟨gb152, 7, none⟩ = some (.int .i64 ((J67 l0 x5_1).f3.f1)) := (blk_cell BK152.out 7).trans rfl
                have hcz43_8 : w41.cell? ⟨gb152, 8, none⟩ = some (.int .i64 ((J67 l0 x5_1).f3.f2)) := (blk_cell BK152.out 8).trans rfl
                have hcz43_9 : w41.cell? ⟨gb152, 9, none⟩ = some (.slice A151_9 ((J67 l0 x5_1).f3.f3).length c151_9) := (blk_cell BK152.out 9).trans rfl
                have hfz43_0 := blk_frozen BK152.out 0
                have hfz43_1 := blk_frozen BK152.out 1
                have hfz43_2 := blk_frozen BK152.out 2
                have hfz43_3 := blk_frozen BK152.out 3
                have hfz43_4 := blk_frozen BK152.out 4
                have hfz43_5 := blk_frozen BK152.out 5
                have hfz43_6 := blk_frozen BK152.out 6
                have hfz43_7 := blk_frozen BK152.out 7
                have hfz43_8 := blk_frozen BK152.out 8
                have hfz43_9 := blk_frozen BK152.out 9
                have p39 : 0 ≤ (((J67 l0 x5_1).f0) : Int) := dt
                have q39 : (((J67 l0 x5_1).f0) : Int) < ((x3_1.length : Int) : Int) := dt
                obtain ⟨go39, co39, eo39, gb39, gl39, cl39, HG39⟩ := Kd.R_form HO_3.out (by omega)
                (first | cases eo39 | (injection eo39 with ea_ en_ ec_; (first | subst ea_ | (injection ea_ with ea_; subst ea_)); subst ec_; clear en_))
                have GB39 := asd gb39
                have GG39 := asd HG39
                clear gb39 gl39 HG39
                obtain ⟨hx39_0, hf39_0⟩ := Kd.R_celln false HO_3.out (((J67 l0 x5_1).f0) : Int) p39 q39
                replace p39 := eq_true p39
                replace q39 := eq_true q39
                obtain ⟨hy44_, hz44_⟩ := Kd.R_celln false HO_3.out (((J67 l0 x5_1).f0) : Int) dt dt
                have HP44 := Kd.R_putg HO_3.out (((J67 l0 x5_1).f0) : Int) (!((J67 l0 x5_1).f1))
                try go_wp2_with (first | ((with_reducible refine gate_store (t := 4) (p := 82) rfl ?_); refine store_event (t := 4) (p := 82) (v := ?vo_w45) (w1 := (w41.setCell ⟨go39, (((J67 l0 x5_1).f0) : Int).toNat, none⟩ (.bool (!((J67 l0 x5_1).f1))))) ?hg ?ho ?hn ?hr ?_; (case ho => rfl); (case hg => rfl); (case hn => rfl); (case hr => first | (go_simp; done) | (go_simp; rfl)); intro w45 hw; have hg : w41.grownBy w45 (some go39) := (by rw [hw]; exact HP44.2); have hp_ : Kd.R Kd.bool 4 w45 w.heap.size (fun _ => True) (.slice (some ⟨go39, 0, none⟩) x3_1.length co39) y155 := (by rw [hw, Ny155.out]; exact HP44.1); clear HP44; have n0_ := asd (hp_); have n1_ := asd (Kd.R_over' (v := (.slice (some ⟨go39, 0, none⟩) x3_1.length co39)) (skR HO_4.out) (Kd.R_typed HO_3.out) (by decide) hg); have n2_ := asd (blk_grown (g := gb152) (o := .cells #[.int .i64 ((J67 l0 x5_1).f0), .bool ((J67 l0 x5_1).f1), .int .i64 ((J67 l0 x5_1).f2.f0), .int .i64 ((J67 l0 x5_1).f2.f1), .int .i64 ((J67 l0 x5_1).f2.f2), .int .i64 ((J67 l0 x5_1).f2.f3), .bool ((J67 l0 x5_1).f3.f0), .int .i64 ((J67 l0 x5_1).f3.f1), .int .i64 ((J67 l0 x5_1).f3.f2), .slice A151_9 ((J67 l0 x5_1).f3.f3).length c151_9] 67 (0, 0)) (skK BK152.out) hg (Kd.R_ne HO_3.out BK152.out (by decide))); have n3_ := asd ((by rw [hw]; exact below_set (HB.out) GB39.out : Below w.heap.size w w45)); clear HO_3; clear HO_4; clear BK152; clear HB; have HO_3 := n0_; have HO_4 := n1_; have BK152 := n2_; have HB := n3_; clear n0_ n1_ n2_ n3_; clear hg hw hp_; have hcz46_0 : w45.cell? ⟨gb152, 0, none⟩ = some (.int .i64 ((J67 l0 x5_1).f0)) := (blk_cell BK152.out 0).trans rfl; have hcz46_1 : w45.cell? ⟨gb152, 1, none⟩ = some (.bool ((J67 l0 x5_1).f1)) := (blk_cell BK152.out 1).trans rfl; have hcz46_2 : w45.cell? ⟨gb152, 2, none⟩ = some (.int .i64 ((J67 l0 x5_1).f2.f0)) := (blk_cell BK152.out 2).trans rfl; have hcz46_3 : w45.cell? ⟨gb152, 3, none⟩ = some (.int .i64 ((J67 l0 x5_1).f2.f1)) := (blk_cell BK152.out 3).trans rfl; have hcz46_4 : w45.cell? ⟨gb152, 4, none⟩ = some (.int .i64 ((J67 l0 x5_1).f2.f2)) := (blk_cell BK152.out 4).trans rfl; have hcz46_5 : w45.cell? ⟨gb152, 5, none⟩ = some (.int .i64 ((J67 l0 x5_1).f2.f3)) := (blk_cell BK152.out 5).trans rfl; have hcz46_6 : w45.cell? ⟨gb152, 6, none⟩ = some (.bool ((J67 l0 x5_1).f3.f0)) := (blk_cell BK152.out 6).trans rfl; have hcz46_7 : w45.cell? ⟨gb152, 7, none⟩ = some (.int .i64 ((J67 l0 x5_1).f3.f1)) := (blk_cell BK152.out 7).trans rfl; have hcz46_8 : w45.cell? ⟨gb152, 8, none⟩ = some (.int .i64 ((J67 l0 x5_1).f3.f2)) := (blk_cell BK152.out 8).trans rfl; have hcz46_9 : w45.cell? ⟨gb152, 9, none⟩ = some (.slice A151_9 ((J67 l0 x5_1).f3.f3).length c151_9) := (blk_cell BK152.out 9).trans rfl; have hfz46_0 := blk_frozen BK152.out 0; have hfz46_1 := blk_frozen BK152.out 1; have hfz46_2 := blk_frozen BK152.out 2; have hfz46_3 := blk_frozen BK152.out 3; have hfz46_4 := blk_frozen BK152.out 4; have hfz46_5 := blk_frozen BK152.out 5; have hfz46_6 := blk_frozen BK152.out 6; have hfz46_7 := blk_frozen BK152.out 7; have hfz46_8 := blk_frozen BK152.out 8; have hfz46_9 := blk_frozen BK152.out 9; have p40 : 0 ≤ (((J67 l0 x5_1).f0) : Int) := dt; have q40 : (((J67 l0 x5_1).f0) : Int) < ((x4_1.length : Int) : Int) := dt; obtain ⟨go40, co40, eo40, gb40, gl40, cl40, HG40⟩ := Kd.R_form HO_4.out (by omega); (first | cases eo40 | (injection eo40 with ea_ en_ ec_; (first | subst ea_ | (injection ea_ with ea_; subst ea_)); subst ec_; clear en_)); have GB40 := asd gb40; have GG40 := asd HG40; clear gb40 gl40 HG40; (first | simp only [add_plain] at hx154_0 | skip); (first | simp only [add_plain] at hx154_1 | skip); (first | simp only [add_plain] at hx154_2 | skip); (first | simp only [add_plain] at hx154_3 | skip); obtain ⟨ce40, hcl40, hM40, hcc40, hfr40⟩ := Kd.R_elem HO_4.out z33 (((J67 l0 x5_1).f0) : Int) p40 q40; obtain rfl := k33_openM hM40; have hx40_0 : w45.cell? ⟨go40, (((J67 l0 x5_1).f0) : Int).toNat * 4, none⟩ = some (.int .i64 ((J33 x4_1 ((J67 l0 x5_1).f0)).f0)) := hcc40 0 _ rfl; have hx40_1 : w45.cell? ⟨go40, (((J67 l0 x5_1).f0) : Int).toNat * 4 + 1, none⟩ = some (.int .i64 ((J33 x4_1 ((J67 l0 x5_1).f0)).f1)) := hcc40 1 _ rfl; have hx40_2 : w45.cell? ⟨go40, (((J67 l0 x5_1).f0) : Int).toNat * 4 + 2, none⟩ = some (.int .i64 ((J33 x4_1 ((J67 l0 x5_1).f0)).f2)) := hcc40 2 _ rfl; have hx40_3 : w45.cell? ⟨go40, (((J67 l0 x5_1).f0) : Int).toNat * 4 + 3, none⟩ = some (.int .i64 ((J33 x4_1 ((J67 l0 x5_1).f0)).f3)) := hcc40 3 _ rfl; have hf40_0 : w45.frozen? ⟨go40, (((J67 l0 x5_1).f0) : Int).toNat * 4, none⟩ = false := hfr40 0; have hf40_1 : w45.frozen? ⟨go40, (((J67 l0 x5_1).f0) : Int).toNat * 4 + 1, none⟩ = false := hfr40 1; have hf40_2 : w45.frozen? ⟨go40, (((J67 l0 x5_1).f0) : Int).toNat * 4 + 2, none⟩ = false := hfr40 2; have hf40_3 : w45.frozen? ⟨go40, (((J67 l0 x5_1).f0) : Int).toNat * 4 + 3, none⟩ = false := hfr40 3; clear hcl40 hcc40 hfr40 hM40; replace p40 := eq_true p40; replace q40 := eq_true q40; have HX47 := asd (show Kd.R k33 33 w45 w.heap.size (fun _ => True) (.slice (some ⟨go40, 0, none⟩) x4_1.length co42) x4_1 from (skR HO_4.out)); obtain ⟨ce47, hcl47, hM47, hcc47, hfr47⟩ := Kd.R_elem HX47.out z33 (((J67 l0 x5_1).f0) : Int) dt (by have h_ : (((J67 l0 x5_1).f0) : Int) < ((x4_1.length : Int) : Int) := dt; first | exact h_ | (have e_ := (Kd.R_reads' HO_4.out).1; omega) | simpa using h_); obtain rfl := k33_openM hM47; have HP47 := Kd.R_seg HX47.out (((J67 l0 x5_1).f0) : Int) dt (by have h_ : (((J67 l0 x5_1).f0) : Int) < ((x4_1.length : Int) : Int) := dt; first | exact h_ | (have e_ := (Kd.R_reads' HO_4.out).1; omega) | simpa using h_) (seg := [.int .i64 ((J67 l0 x5_1).f2.f0), .int .i64 ((J67 l0 x5_1).f2.f1), .int .i64 ((J67 l0 x5_1).f2.f2), .int .i64 ((J67 l0 x5_1).f2.f3)]) (j := 0) hcl47 hcc47 (show 4 ≤ 4 from by decide) (x' := (⟨((J67 l0 x5_1).f2.f0), ((J67 l0 x5_1).f2.f1), ((J67 l0 x5_1).f2.f2), ((J67 l0 x5_1).f2.f3)⟩ : S33)) (k33_mkM _ _ _ (⟨((J67 l0 x5_1).f2.f0), ((J67 l0 x5_1).f2.f1), ((J67 l0 x5_1).f2.f2), ((J67 l0 x5_1).f2.f3)⟩ : S33) ) (fun _ hk => hk); have hx47_0 := hcc47 0 _ rfl; (try simp only [show (k33).sz = 4 from rfl, Nat.mul_one, Nat.add_zero] at hx47_0); have hf47_0 := hfr47 0; (try simp only [show (k33).sz = 4 from rfl, Nat.mul_one, Nat.add_zero] at hf47_0); have hx47_1 := hcc47 1 _ rfl; (try simp only [show (k33).sz = 4 from rfl, Nat.mul_one, Nat.add_zero] at hx47_1); have hf47_1 := hfr47 1; (try simp only [show (k33).sz = 4 from rfl, Nat.mul_one, Nat.add_zero] at hf47_1); have hx47_2 := hcc47 2 _ rfl; (try simp only [show (k33).sz = 4 from rfl, Nat.mul_one, Nat.add_zero] at hx47_2); have hf47_2 := hfr47 2; (try simp only [show (k33).sz = 4 from rfl, Nat.mul_one, Nat.add_zero] at hf47_2); have hx47_3 := hcc47 3 _ rfl; (try simp only [show (k33).sz = 4 from rfl, Nat.mul_one, Nat.add_zero] at hx47_3); have hf47_3 := hfr47 3; (try simp only [show (k33).sz = 4 from rfl, Nat.mul_one, Nat.add_zero] at hf47_3); clear hcl47 hcc47 hfr47 hM47) | ((with_reducible refine gate_store (t := 33) (p := 88) rfl ?_); refine store_event (t := 33) (p := 88) (v := ?vo_w48) (w1 := ((((w45.setCell ⟨go40, (((J67 l0 x5_1).f0) : Int).toNat * 4, none⟩ (.int .i64 ((J67 l0 x5_1).f2.f0))).setCell ⟨go40, (((J67 l0 x5_1).f0) : Int).toNat * 4 + 1, none⟩ (.int .i64 ((J67 l0 x5_1).f2.f1))).setCell ⟨go40, (((J67 l0 x5_1).f0) : Int).toNat * 4 + 2, none⟩ (.int .i64 ((J67 l0 x5_1).f2.f2))).setCell ⟨go40, (((J67 l0 x5_1).f0) : Int).toNat * 4 + 3, none⟩ (.int .i64 ((J67 l0 x5_1).f2.f3)))) ?hg ?ho ?hn ?hr ?_; (case ho => rfl); (case hg => rfl); (case hn => rfl); (case hr => first | (go_simp; done) | (go_simp; rfl)); intro w48 hw; have hg : w45.grownBy w48 (some go40) := (by rw [hw]; exact HP47.2); have hp_ : Kd.R k33 33 w48 w.heap.size (fun _ => True) (.slice (some ⟨go40, 0, none⟩) x4_1.length co42) y156 := (by rw [hw, Ny156.out]; exact HP47.1); clear HP47; have n0_ := asd (Kd.R_over' (v := (.slice (some ⟨go40, 0, none⟩) x4_1.length co42)) (skR HO_3.out) (Kd.R_typed HO_4.out) (by decide) hg); have n1_ := asd (hp_); have n2_ := asd (blk_grown (g := gb152) (o := .cells #[.int .i64 ((J67 l0 x5_1).f0), .bool ((J67 l0 x5_1).f1), .int .i64 ((J67 l0 x5_1).f2.f0), .int .i64 ((J67 l0 x5_1).f2.f1), .int .i64 ((J67 l0 x5_1).f2.f2), .int .i64 ((J67 l0 x5_1).f2.f3), .bool ((J67 l0 x5_1).f3.f0), .int .i64 ((J67 l0 x5_1).f3.f1), .int .i64 ((J67 l0 x5_1).f3.f2), .slice A151_9 ((J67 l0 x5_1).f3.f3).length c151_9] 67 (0, 0)) (skK BK152.out) hg (Kd.R_ne HO_4.out BK152.out (by decide))); have n3_ := asd ((by rw [hw]; exact below_set (below_set (below_set (below_set (HB.out) GB40.out) GB40.out) GB40.out) GB40.out : Below w.heap.size w w48)); clear HO_3; clear HO_4; clear BK152; clear HB; have HO_3 := n0_; have HO_4 := n1_; have BK152 := n2_; have HB := n3_; clear n0_ n1_ n2_ n3_; clear hg hw hp_))
                go_roundg kj10
                case measure => have := HK1.out; have := HJ10.out; omega
                case rel => exact ⟨(y155), (y156), (wrap64 (x5_1 + 1)), rs, H', ⟨by have := HK1.out; have := HJ10.out; omega⟩, ⟨skR HO_3.out⟩, ⟨skR HO_4.out⟩, ⟨skG HB.out GE152.out GE152.out⟩⟩
               ·
                rw [if_neg c38] at H
                exact absurd H (by simp)
             ·
              rw [if_neg c34] at H
              exact absurd H (by simp)
            ·
             rw [if_neg c33] at H
             exact absurd H (by simp)
           ·
            rw [if_neg c32] at H
            have c32b0 : ((J67 l0 x5_1).f1) = false := by simpa using c32
            clear c32
            replace H := Option.bind_eq_some_iff.mp H
            obtain ⟨t157, A490, H⟩ := H
            replace H : (if t157 = true then (if 0 ≤ ((J67 l0 x5_1).f0) then (if ((J67 l0 x5_1).f0) < (x3_1.length : Int) then (if ((J67 l0 x5_1).f0) < (x4_1.length : Int) then (larchref05_Check.l0 kj10 l0 (x3_1.set (((J67 l0 x5_1).f0) : Int).toNat (!((J67 l0 x5_1).f1))) (x4_1.set (((J67 l0 x5_1).f0) : Int).toNat (⟨((J67 l0 x5_1).f2.f0), ((J67 l0 x5_1).f2.f1), ((J67 l0 x5_1).f2.f2), ((J67 l0 x5_1).f2.f3)⟩ : S33)) (wrap64 (x5_1 + 1))) else (none)) else (none)) else (none)) else (some 3)) = some r := H
            have A49 := asd A490
            clear A490
            by_cases c50 : t157 = true
            ·
             subst c50
             have H1 : (if 0 ≤ ((J67 l0 x5_1).f0) then (if ((J67 l0 x5_1).f0) < (x3_1.length : Int) then (if ((J67 l0 x5_1).f0) < (x4_1.length : Int) then (larchref05_Check.l0 kj10 l0 (x3_1.set (((J67 l0 x5_1).f0) : Int).toNat (!((J67 l0 x5_1).f1))) (x4_1.set (((J67 l0 x5_1).f0) : Int).toNat (⟨((J67 l0 x5_1).f2.f0), ((J67 l0 x5_1).f2.f1), ((J67 l0 x5_1).f2.f2), ((J67 l0 x5_1).f2.f3)⟩ : S33)) (wrap64 (x5_1 + 1))) else (none)) else (none)) else (none)) = some r := by rw [if_pos rfl] at H; exact H
             clear H
             have H := H1
             clear H1
             by_cases c51 : 0 ≤ ((J67 l0 x5_1).f0)
             ·
              rw [if_pos c51] at H
              have c51b0 : decide (0 ≤ ((J67 l0 x5_1).f0)) = true := decide_eq_true c51
              clear c51
              by_cases c52 : ((J67 l0 x5_1).f0) < (x3_1.length : Int)
              ·
               rw [if_pos c52] at H
               have c52b0 : decide (((J67 l0 x5_1).f0) < (x3_1.length : Int)) = true := decide_eq_true c52
               clear c52
               obtain ⟨y158, hy158⟩ : ∃ y_ : List Bool, y_ = (x3_1.set (((J67 l0 x5_1).f0) : Int).toNat (!((J67 l0 x5_1).f1))) := ⟨_, rfl⟩
               replace H : (if ((J67 l0 x5_1).f0) < (x4_1.length : Int) then (larchref05_Check.l0 kj10 l0 y158 (x4_1.set (((J67 l0 x5_1).f0) : Int).toNat (⟨((J67 l0 x5_1).f2.f0), ((J67 l0 x5_1).f2.f1), ((J67 l0 x5_1).f2.f2), ((J67 l0 x5_1).f2.f3)⟩ : S33)) (wrap64 (x5_1 + 1))) else (none)) = some r := by first | (rw [hy158]; with_reducible exact H) | (have H2_ := (Option.bind_some _ _).symm.trans H; rw [hy158]; with_reducible exact H2_) | (have H2_ := (Option.bind_some _ _).symm.trans H; with_reducible exact H2_) | with_reducible exact H | (rw [hy158]; exact H) | exact H
               have Ny158 := asd hy158
               clear hy158
               by_cases c54 : ((J67 l0 x5_1).f0) < (x4_1.length : Int)
               ·
                rw [if_pos c54] at H
                have c54b0 : decide (((J67 l0 x5_1).f0) < (x4_1.length : Int)) = true := decide_eq_true c54
                clear c54
                obtain ⟨y159, hy159⟩ : ∃ y_ : List (S33), y_ = (x4_1.set (((J67 l0 x5_1).f0) : Int).toNat (⟨((J67 l0 x5_1).f2.f0), ((J67 l0 x5_1).f2.f1), ((J67 l0 x5_1).f2.f2), ((J67 l0 x5_1).f2.f3)⟩ : S33)) := ⟨_, rfl⟩
                replace H : (larchref05_Check.l0 kj10 l0 y158 y159 (wrap64 (x5_1 + 1))) = some r := by first | (rw [hy159]; with_reducible exact H) | (have H2_ := (Option.bind_some _ _).symm.trans H; rw [hy159]; with_reducible exact H2_) | (have H2_ := (Option.bind_some _ _).symm.trans H; with_reducible exact H2_) | with_reducible exact H | (rw [hy159]; exact H) | exact H
                have Ny159 := asd hy159
                clear hy159
                have H' := asd H
                clear H
                try go_wp2
                have n0_ := asd (Kd.R_drew HO_3.out)
                have n1_ := asd (Kd.R_drew HO_4.out)
                have n2_ := asd (blk_drew BK152.out)
                have n3_ := asd (below_drew1 HB.out)
                clear HO_3
                clear HO_4
                clear BK152
                clear HB
                have HO_3 := n0_
                have HO_4 := n1_
                have BK152 := n2_
                have HB := n3_
                clear n0_ n1_ n2_ n3_
                refine start_ (n := 24) (S := fun w' => w'.cell? ⟨gb152, 0, none⟩ = some (.int .i64 ((J67 l0 x5_1).f0)) ∧ w'.cell? ⟨gb152, 1, none⟩ = some (.bool ((J67 l0 x5_1).f1)) ∧ w'.cell? ⟨gb152, 2, none⟩ = some (.int .i64 ((J67 l0 x5_1).f2.f0)) ∧ w'.cell? ⟨gb152, 3, none⟩ = some (.int .i64 ((J67 l0 x5_1).f2.f1)) ∧ w'.cell? ⟨gb152, 4, none⟩ = some (.int .i64 ((J67 l0 x5_1).f2.f2)) ∧ w'.cell? ⟨gb152, 5, none⟩ = some (.int .i64 ((J67 l0 x5_1).f2.f3)) ∧ w'.cell? ⟨gb152, 6, none⟩ = some (.bool ((J67 l0 x5_1).f3.f0)) ∧ w'.cell? ⟨gb152, 7, none⟩ = some (.int .i64 ((J67 l0 x5_1).f3.f1)) ∧ w'.cell? ⟨gb152, 8, none⟩ = some (.int .i64 ((J67 l0 x5_1).f3.f2)) ∧ w'.cell? ⟨gb152, 9, none⟩ = some (.slice A151_9 ((J67 l0 x5_1).f3.f3).length c151_9)) (ds := []) #[false,false,false,false,false,false,false,false,false,false,false,false,false,false,false,false,false,false,false,false,false,false,false,false] (by kernel_rfl) rfl rfl ⟨(blk_cell BK152.out 0).trans rfl, (blk_cell BK152.out 1).trans rfl, (blk_cell BK152.out 2).trans rfl, (blk_cell BK152.out 3).trans rfl, (blk_cell BK152.out 4).trans rfl, (blk_cell BK152.out 5).trans rfl, (blk_cell BK152.out 6).trans rfl, (blk_cell BK152.out 7).trans rfl, (blk_cell BK152.out 8).trans rfl, (blk_cell BK152.out 9).trans rfl⟩ (fun hHeld => ?_); refine with_tabW larchref05_Check.tab11 larchref05_Check.bits11 (fun HT_ HW_ => ?_)
                generalize wc.drew = w56 at HO_3 HO_4 BK152 HB hHeld ⊢
                refine pure_ (i := 0) (N := some 52) (v := ?_) (a' := ?_) #[true,false,false,false,false,false,false,false,false,false,false,false,false,false,false,false,false,false,false,false,false,false,false,false] rfl rfl (aK HT_.out) (fun _ _ _ h => h) (Or.inl ⟨by rfl, ?_⟩) ?_ ?_
                rotate_left
                ·
                 intro w'
                 go_simp
                 with_reducible rfl
                rotate_left
                ·
                 simp only [Act.put, sp]
                 rfl
                refine take_ (i := 1) (N := some 53) (v := ?_) (a' := ?_) #[true,true,false,false,false,false,false,false,false,false,false,false,false,false,false,false,false,false,false,false,false,false,false,false] rfl rfl (take_ofW HT_.out HW_.out (by kernel_rfl)) (fun _ _ _ h => h) (Or.inl ⟨by rfl, ?_⟩) hHeld ?_ ?_
                rotate_left
                ·
                 rintro w' ⟨s0, s1, s2, s3, s4, s5, s6, s7, s8, s9⟩
                 go_simp
                 with_reducible rfl
                rotate_left
                ·
                 simp only [Act.put, sp]
                 rfl
                refine pure_ (i := 2) (N := some 54) (v := ?_) (a' := ?_) #[true,true,true,false,false,false,false,false,false,false,false,false,false,false,false,false,false,false,false,false,false,false,false,false] rfl rfl (aK HT_.out) (fun _ _ _ h => h) (Or.inl ⟨by rfl, ?_⟩) ?_ ?_
                rotate_left
                ·
                 intro w'
                 go_simp
                 with_reducible rfl
                rotate_left
                ·
                 simp only [Act.put, sp]
                 rfl
                refine pure_ (i := 3) (N := some 55) (v := undef) (a' := ?_) #[true,true,true,true,false,false,false,false,false,false,false,false,false,false,false,false,false,false,false,false,false,false,false,false] rfl rfl (aK HT_.out) (fun _ _ _ h => h) (Or.inr ⟨by rfl, rfl⟩) ?_ ?_
                rotate_left
                ·
                 simp only [Act.put, sp]
                 rfl
                refine pure_ (i := 4) (N := some 56) (v := undef) (a' := ?_) #[true,true,true,true,true,false,false,false,false,false,false,false,false,false,false,false,false,false,false,false,false,false,false,false] rfl rfl (aK HT_.out) (fun _ _ _ h => h) (Or.inr ⟨by rfl, rfl⟩) ?_ ?_
                rotate_left
                ·
                 simp only [Act.put, sp]
                 rfl
                refine pure_ (i := 5) (N := some 57) (v := undef) (a' := ?_) #[true,true,true,true,true,true,false,false,false,false,false,false,false,false,false,false,false,false,false,false,false,false,false,false] rfl rfl (aK HT_.out) (fun _ _ _ h => h) (Or.inr ⟨by rfl, rfl⟩) ?_ ?_
                rotate_left
                ·
                 simp only [Act.put, sp]
                 rfl
                refine pure_ (i := 6) (N := some 58) (v := undef) (a' := ?_) #[true,true,true,true,true,true,true,false,false,false,false,false,false,false,false,false,false,false,false,false,false,false,false,false] rfl rfl (aK HT_.out) (fun _ _ _ h => h) (Or.inr ⟨by rfl, rfl⟩) ?_ ?_
                rotate_left
                ·
                 simp only [Act.put, sp]
                 rfl
                refine pure_ (i := 7) (N := some 59) (v := undef) (a' := ?_) #[true,true,true,true,true,true,true,true,false,false,false,false,false,false,false,false,false,false,false,false,false,false,false,false] rfl rfl (aK HT_.out) (fun _ _ _ h => h) (Or.inr ⟨by rfl, rfl⟩) ?_ ?_
                rotate_left
                ·
                 simp only [Act.put, sp]
                 rfl
                refine pure_ (i := 8) (N := some 60) (v := undef) (a' := ?_) #[true,true,true,true,true,true,true,true,true,false,false,false,false,false,false,false,false,false,false,false,false,false,false,false] rfl rfl (aK HT_.out) (fun _ _ _ h => h) (Or.inr ⟨by rfl, rfl⟩) ?_ ?_
                rotate_left
                ·
                 simp only [Act.put, sp]
                 rfl
                refine pure_ (i := 9) (N := some 61) (v := undef) (a' := ?_) #[true,true,true,true,true,true,true,true,true,true,false,false,false,false,false,false,false,false,false,false,false,false,false,false] rfl rfl (aK HT_.out) (fun _ _ _ h => h) (Or.inr ⟨by rfl, rfl⟩) ?_ ?_
                rotate_left
                ·
                 simp only [Act.put, sp]
                 rfl
                refine pure_ (i := 10) (N := some 62) (v := undef) (a' := ?_) #[true,true,true,true,true,true,true,true,true,true,true,false,false,false,false,false,false,false,false,false,false,false,false,false] rfl rfl (aK HT_.out) (fun _ _ _ h => h) (Or.inr ⟨by rfl, rfl⟩) ?_ ?_
                rotate_left
                ·
                 simp only [Act.put, sp]
                 rfl
                refine pure_ (i := 11) (N := some 63) (v := ?_) (a' := ?_) #[true,true,true,true,true,true,true,true,true,true,true,true,false,false,false,false,false,false,false,false,false,false,false,false] rfl rfl (aK HT_.out) (fun _ _ _ h => h) (Or.inl ⟨by rfl, ?_⟩) ?_ ?_
                rotate_left
                ·
                 intro w'
                 go_simp
                 with_reducible rfl
                rotate_left
                ·
                 simp only [Act.put, sp]
                 rfl
                refine pure_ (i := 12) (N := some 64) (v := ?_) (a' := ?_) #[true,true,true,true,true,true,true,true,true,true,true,true,true,false,false,false,false,false,false,false,false,false,false,false] rfl rfl (aK HT_.out) (fun _ _ _ h => h) (Or.inl ⟨by rfl, ?_⟩) ?_ ?_
                rotate_left
                ·
                 intro w'
                 go_simp
                 with_reducible rfl
                rotate_left
                ·
                 simp only [Act.put, sp]
                 rfl
                refine pure_ (i := 13) (N := some 65) (v := ?_) (a' := ?_) #[true,true,true,true,true,true,true,true,true,true,true,true,true,true,false,false,false,false,false,false,false,false,false,false] rfl rfl (aK HT_.out) (fun _ _ _ h => h) (Or.inl ⟨by rfl, ?_⟩) ?_ ?_
                rotate_left
                ·
                 intro w'
                 go_simp
                 with_reducible rfl
                rotate_left
                ·
                 simp only [Act.put, sp]
                 rfl
                refine take_ (i := 14) (N := some 66) (v := ?_) (a' := ?_) #[true,true,true,true,true,true,true,true,true,true,true,true,true,true,true,false,false,false,false,false,false,false,false,false] rfl rfl (take_ofW HT_.out HW_.out (by kernel_rfl)) (fun _ _ _ h => h) (Or.inl ⟨by rfl, ?_⟩) hHeld ?_ ?_
                rotate_left
                ·
                 rintro w' ⟨s0, s1, s2, s3, s4, s5, s6, s7, s8, s9⟩
                 go_simp
                 with_reducible rfl
                rotate_left
                ·
                 simp only [Act.put, sp]
                 rfl
                refine pure_ (i := 15) (N := some 67) (v := ?_) (a' := ?_) #[true,true,true,true,true,true,true,true,true,true,true,true,true,true,true,true,false,false,false,false,false,false,false,false] rfl rfl (aK HT_.out) (fun _ _ _ h => h) (Or.inl ⟨by rfl, ?_⟩) ?_ ?_
                rotate_left
                ·
                 intro w'
                 go_simp
                 with_reducible rfl
                rotate_left
                ·
                 simp only [Act.put, sp]
                 rfl
                refine pure_ (i := 16) (N := some 68) (v := ?_) (a' := ?_) #[true,true,true,true,true,true,true,true,true,true,true,true,true,true,true,true,true,false,false,false,false,false,false,false] rfl rfl (aK HT_.out) (fun _ _ _ h => h) (Or.inl ⟨by rfl, ?_⟩) ?_ ?_
                rotate_left
                ·
                 intro w'
                 go_simp
                 with_reducible rfl
                rotate_left
                ·
                 simp only [Act.put, sp]
                 rfl
                refine pure_ (i := 17) (N := some 69) (v := ?_) (a' := ?_) #[true,true,true,true,true,true,true,true,true,true,true,true,true,true,true,true,true,true,false,false,false,false,false,false] rfl rfl (aK HT_.out) (fun _ _ _ h => h) (Or.inl ⟨by rfl, ?_⟩) ?_ ?_
                rotate_left
                ·
                 intro w'
                 go_simp
                 with_reducible rfl
                rotate_left
                ·
                 simp only [Act.put, sp]
                 rfl
                refine pure_ (i := 19) (N := some 71) (v := ?_) (a' := ?_) #[true,true,true,true,true,true,true,true,true,true,true,true,true,true,true,true,true,true,false,true,false,false,false,false] rfl rfl (aK HT_.out) (fun _ _ _ h => h) (Or.inl ⟨by rfl, ?_⟩) ?_ ?_
                rotate_left
                ·
                 intro w'
                 go_simp
                 with_reducible rfl
                rotate_left
                ·
                 simp only [Act.put, sp]
                 rfl
                refine take_ (i := 18) (N := some 70) (v := ?_) (a' := ?_) #[true,true,true,true,true,true,true,true,true,true,true,true,true,true,true,true,true,true,true,true,false,false,false,false] rfl rfl (take_ofW HT_.out HW_.out (by kernel_rfl)) (fun _ _ _ h => h) (Or.inl ⟨by rfl, ?_⟩) hHeld ?_ ?_
                rotate_left
                ·
                 rintro w' ⟨s0, s1, s2, s3, s4, s5, s6, s7, s8, s9⟩
                 go_simp
                 with_reducible rfl
                rotate_left
                ·
                 simp only [Act.put, sp]
                 rfl
                refine one_ (i := 20) (N := some 72) #[true,true,true,true,true,true,true,true,true,true,true,true,true,true,true,true,true,true,true,true,true,false,false,false] rfl rfl (one_of HT_.out (by kernel_rfl)) (by decide) (fun K hK => ?_)
                refine goes_ Try.func63 (by kernel_rfl) rfl #[.agg #[.bool ((J67 l0 x5_1).f3.f0), .int .i64 ((J67 l0 x5_1).f3.f1), .int .i64 ((J67 l0 x5_1).f3.f2), .slice A151_9 ((J67 l0 x5_1).f3.f3).length c151_9], .agg #[.bool false, .int .i64 0, .int .i64 0, .slice none 0 0]] (by rfl) rfl rfl ags ?_
                refine (larchref05_SameRet.calls kj10 ((J67 l0 x5_1).f3.f0) ((J67 l0 x5_1).f3.f1) ((J67 l0 x5_1).f3.f2) _ _ ((J67 l0 x5_1).f3.f3) false 0 0 _ _ ([] : List (S70)) true _ ?side1 ?side2 ?side3 ?side4 A49.out).mono ?_
                (case side1 => exact skC (Kd.C_below HR151_9.out HB.out))
                (case side2 => exact HC151_9.out)
                (case side3 => exact Kd.C_nil _ _)
                (case side4 => exact Nat.le_refl _)
                rintro e w57 ⟨rfl, hb⟩
                refine ⟨_, rfl, ?_⟩
                have n0_ := asd (Kd.R_below (skR HO_3.out) hb)
                have n1_ := asd (Kd.R_below (skR HO_4.out) hb)
                have n2_ := asd (blk_below (g := gb152) (o := .cells #[.int .i64 ((J67 l0 x5_1).f0), .bool ((J67 l0 x5_1).f1), .int .i64 ((J67 l0 x5_1).f2.f0), .int .i64 ((J67 l0 x5_1).f2.f1), .int .i64 ((J67 l0 x5_1).f2.f2), .int .i64 ((J67 l0 x5_1).f2.f3), .bool ((J67 l0 x5_1).f3.f0), .int .i64 ((J67 l0 x5_1).f3.f1), .int .i64 ((J67 l0 x5_1).f3.f2), .slice A151_9 ((J67 l0 x5_1).f3.f3).length c151_9] 67 (0, 0)) (skK BK152.out) hb)
                have n3_ := asd (below_step (skG HB.out GE152.out GE152.out) hb)
                clear HO_3
                clear HO_4
                clear BK152
                clear HB
                have HO_3 := n0_
                have HO_4 := n1_
                have BK152 := n2_
                have HB := n3_
                clear n0_ n1_ n2_ n3_
                (try clear hb)
                (try clear hb2)
                (try clear hk)
                (try clear hi)
                refine hK.out _ _ ⟨(blk_cell BK152.out 0).trans rfl, (blk_cell BK152.out 1).trans rfl, (blk_cell BK152.out 2).trans rfl, (blk_cell BK152.out 3).trans rfl, (blk_cell BK152.out 4).trans rfl, (blk_cell BK152.out 5).trans rfl, (blk_cell BK152.out 6).trans rfl, (blk_cell BK152.out 7).trans rfl, (blk_cell BK152.out 8).trans rfl, (blk_cell BK152.out 9).trans rfl⟩ (fun hHeld => ?_)
                clear hK K
                refine norm_ (a' := ?_) ?_ ?_
                rotate_left
                ·
                 show Act.put _ (some 72) _ = _
                 simp only [Act.put, sp]
                 rfl
                refine pure_ (i := 21) (N := some 73) (v := ?_) (a' := ?_) #[true,true,true,true,true,true,true,true,true,true,true,true,true,true,true,true,true,true,true,true,true,true,false,false] rfl rfl (aK HT_.out) (fun _ _ _ h => h) (Or.inl ⟨by rfl, ?_⟩) ?_ ?_
                rotate_left
                ·
                 intro w'
                 go_simp
                 with_reducible rfl
                rotate_left
                ·
                 simp only [Act.put, sp]
                 rfl
                refine pure_ (i := 22) (N := some 74) (v := ?_) (a' := ?_) #[true,true,true,true,true,true,true,true,true,true,true,true,true,true,true,true,true,true,true,true,true,true,true,false] rfl rfl (aK HT_.out) (fun _ _ _ h => h) (Or.inl ⟨by rfl, ?_⟩) ?_ ?_
                rotate_left
                ·
                 intro w'
                 go_simp
                 with_reducible rfl
                rotate_left
                ·
                 simp only [Act.put, sp]
                 rfl
                refine pure_ (i := 23) (N := some 75) (v := ?_) (a' := ?_) #[true,true,true,true,true,true,true,true,true,true,true,true,true,true,true,true,true,true,true,true,true,true,true,true] rfl rfl (aK HT_.out) (fun _ _ _ h => h) (Or.inl ⟨by rfl, ?_⟩) ?_ ?_
                rotate_left
                ·
                 intro w'
                 go_simp
                 with_reducible rfl
                rotate_left
                ·
                 simp only [Act.put, sp]
                 rfl
                refine done_ (done_of HT_.out (by kernel_rfl)) ?_
                have hcz58_0 : w57.cell? ⟨gb152, 0, none⟩ = some (.int .i64 ((J67 l0 x5_1).f0)) := (blk_cell BK152.out 0).trans rfl
                have hcz58_1 : w57.cell? ⟨gb152, 1, none⟩ = some (.bool ((J67 l0 x5_1).f1)) := (blk_cell BK152.out 1).trans rfl
                have hcz58_2 : w57.cell? ⟨gb152, 2, none⟩ = some (.int .i64 ((J67 l0 x5_1).f2.f0)) := (blk_cell BK152.out 2).trans rfl
                have hcz58_3 : w57.cell? ⟨gb152, 3, none⟩ = some (.int .i64 ((J67 l0 x5_1).f2.f1)) := (blk_cell BK152.out 3).trans rfl
                have hcz58_4 : w57.cell? ⟨gb152, 4, none⟩ = some (.int .i64 ((J67 l0 x5_1).f2.f2)) := (blk_cell BK152.out 4).trans rfl
                have hcz58_5 : w57.cell? ⟨gb152, 5, none⟩ = some (.int .i64 ((J67 l0 x5_1).f2.f3)) := (blk_cell BK152.out 5).trans rfl
                have hcz58_6 : w57.cell? ⟨gb152, 6, none⟩ = some (.bool ((J67 l0 x5_1).f3.f0)) := (blk_cell BK152.out 6).trans rfl
                have hcz58_7 : w57.cell? ⟨gb152, 7, none⟩ = some (.int .i64 ((J67 l0 x5_1).f3.f1)) := (blk_cell BK152.out 7).trans rfl
                have hcz58_8 : w57.cell? ⟨gb152, 8, none⟩ = some (.int .i64 ((J67 l0 x5_1).f3.f2)) := (blk_cell BK152.out 8).trans rfl
                have hcz58_9 : w57.cell? ⟨gb152, 9, none⟩ = some (.slice A151_9 ((J67 l0 x5_1).f3.f3).length c151_9) := (blk_cell BK152.out 9).trans rfl
                have hfz58_0 := blk_frozen BK152.out 0
                have hfz58_1 := blk_frozen BK152.out 1
                have hfz58_2 := blk_frozen BK152.out 2
                have hfz58_3 := blk_frozen BK152.out 3
                have hfz58_4 := blk_frozen BK152.out 4
                have hfz58_5 := blk_frozen BK152.out 5
                have hfz58_6 := blk_frozen BK152.out 6
                have hfz58_7 := blk_frozen BK152.out 7
                have hfz58_8 := blk_frozen BK152.out 8
                have hfz58_9 := blk_frozen BK152.out 9
                have p53 : 0 ≤ (((J67 l0 x5_1).f0) : Int) := dt
                have q53 : (((J67 l0 x5_1).f0) : Int) < ((x3_1.length : Int) : Int) := dt
                obtain ⟨go53, co53, eo53, gb53, gl53, cl53, HG53⟩ := Kd.R_form HO_3.out (by omega)
                (first | cases eo53 | (injection eo53 with ea_ en_ ec_; (first | subst ea_ | (injection ea_ with ea_; subst ea_)); subst ec_; clear en_))
                have GB53 := asd gb53
                have GG53 := asd HG53
                clear gb53 gl53 HG53
                obtain ⟨hx53_0, hf53_0⟩ := Kd.R_celln false HO_3.out (((J67 l0 x5_1).f0) : Int) p53 q53
                replace p53 := eq_true p53
                replace q53 := eq_true q53
                obtain ⟨hy59_, hz59_⟩ := Kd.R_celln false HO_3.out (((J67 l0 x5_1).f0) : Int) dt dt
                have HP59 := Kd.R_putg HO_3.out (((J67 l0 x5_1).f0) : Int) (!((J67 l0 x5_1).f1))
                try go_wp2_with (first | ((with_reducible refine gate_store (t := 4) (p := 82) rfl ?_); refine store_event (t := 4) (p := 82) (v := ?vo_w60) (w1 := (w57.setCell ⟨go53, (((J67 l0 x5_1).f0) : Int).toNat, none⟩ (.bool (!((J67 l0 x5_1).f1))))) ?hg ?ho ?hn ?hr ?_; (case ho => rfl); (case hg => rfl); (case hn => rfl); (case hr => first | (go_simp; done) | (go_simp; rfl)); intro w60 hw; have hg : w57.grownBy w60 (some go53) := (by rw [hw]; exact HP59.2); have hp_ : Kd.R Kd.bool 4 w60 w.heap.size (fun _ => True) (.slice (some ⟨go53, 0, none⟩) x3_1.length co53) y158 := (by rw [hw, Ny158.out]; exact HP59.1); clear HP59; have n0_ := asd (hp_); have n1_ := asd (Kd.R_over' (v := (.slice (some ⟨go53, 0, none⟩) x3_1.length co53)) (skR HO_4.out) (Kd.R_typed HO_3.out) (by decide) hg); have n2_ := asd (blk_grown (g := gb152) (o := .cells #[.int .i64 ((J67 l0 x5_1).f0), .bool ((J67 l0 x5_1).f1), .int .i64 ((J67 l0 x5_1).f2.f0), .int .i64 ((J67 l0 x5_1).f2.f1), .int .i64 ((J67 l0 x5_1).f2.f2), .int .i64 ((J67 l0 x5_1).f2.f3), .bool ((J67 l0 x5_1).f3.f0), .int .i64 ((J67 l0 x5_1).f3.f1), .int .i64 ((J67 l0 x5_1).f3.f2), .slice A151_9 ((J67 l0 x5_1).f3.f3).length c151_9] 67 (0, 0)) (skK BK152.out) hg (Kd.R_ne HO_3.out BK152.out (by decide))); have n3_ := asd ((by rw [hw]; exact below_set (HB.out) GB53.out : Below w.heap.size w w60)); clear HO_3; clear HO_4; clear BK152; clear HB; have HO_3 := n0_; have HO_4 := n1_; have BK152 := n2_; have HB := n3_; clear n0_ n1_ n2_ n3_; clear hg hw hp_; have hcz61_0 : w60.cell? ⟨gb152, 0, none⟩ = some (.int .i64 ((J67 l0 x5_1).f0)) := (blk_cell BK152.out 0).trans rfl; have hcz61_1 : w60.cell? ⟨gb152, 1, none⟩ = some (.bool ((J67 l0 x5_1).f1)) := (blk_cell BK152.out 1).trans rfl; have hcz61_2 : w60.cell? ⟨gb152, 2, none⟩ = some (.int .i64 ((J67 l0 x5_1).f2.f0)) := (blk_cell BK152.out 2).trans rfl; have hcz61_3 : w60.cell? ⟨gb152, 3, none⟩ = some (.int .i64 ((J67 l0 x5_1).f2.f1)) := (blk_cell BK152.out 3).trans rfl; have hcz61_4 : w60.cell? ⟨gb152, 4, none⟩ = some (.int .i64 ((J67 l0 x5_1).f2.f2)) := (blk_cell BK152.out 4).trans rfl; have hcz61_5 : w60.cell? ⟨gb152, 5, none⟩ = some (.int .i64 ((J67 l0 x5_1).f2.f3)) := (blk_cell BK152.out 5).trans rfl; have hcz61_6 : w60.cell? ⟨gb152, 6, none⟩ = some (.bool ((J67 l0 x5_1).f3.f0)) := (blk_cell BK152.out 6).trans rfl; have hcz61_7 : w60.cell? ⟨gb152, 7, none⟩ = some (.int .i64 ((J67 l0 x5_1).f3.f1)) := (blk_cell BK152.out 7).trans rfl; have hcz61_8 : w60.cell? ⟨gb152, 8, none⟩ = some (.int .i64 ((J67 l0 x5_1).f3.f2)) := (blk_cell BK152.out 8).trans rfl; have hcz61_9 : w60.cell? ⟨gb152, 9, none⟩ = some (.slice A151_9 ((J67 l0 x5_1).f3.f3).length c151_9) := (blk_cell BK152.out 9).trans rfl; have hfz61_0 := blk_frozen BK152.out 0; have hfz61_1 := blk_frozen BK152.out 1; have hfz61_2 := blk_frozen BK152.out 2; have hfz61_3 := blk_frozen BK152.out 3; have hfz61_4 := blk_frozen BK152.out 4; have hfz61_5 := blk_frozen BK152.out 5; have hfz61_6 := blk_frozen BK152.out 6; have hfz61_7 := blk_frozen BK152.out 7; have hfz61_8 := blk_frozen BK152.out 8; have hfz61_9 := blk_frozen BK152.out 9; have p55 : 0 ≤ (((J67 l0 x5_1).f0) : Int) := dt; have q55 : (((J67 l0 x5_1).f0) : Int) < ((x4_1.length : Int) : Int) := dt; obtain ⟨go55, co55, eo55, gb55, gl55, cl55, HG55⟩ := Kd.R_form HO_4.out (by omega); (first | cases eo55 | (injection eo55 with ea_ en_ ec_; (first | subst ea_ | (injection ea_ with ea_; subst ea_)); subst ec_; clear en_)); have GB55 := asd gb55; have GG55 := asd HG55; clear gb55 gl55 HG55; obtain ⟨ce55, hcl55, hM55, hcc55, hfr55⟩ := Kd.R_elem HO_4.out z33 (((J67 l0 x5_1).f0) : Int) p55 q55; obtain rfl := k33_openM hM55; have hx55_0 : w60.cell? ⟨go55, (((J67 l0 x5_1).f0) : Int).toNat * 4, none⟩ = some (.int .i64 ((J33 x4_1 ((J67 l0 x5_1).f0)).f0)) := hcc55 0 _ rfl; have hx55_1 : w60.cell? ⟨go55, (((J67 l0 x5_1).f0) : Int).toNat * 4 + 1, none⟩ = some (.int .i64 ((J33 x4_1 ((J67 l0 x5_1).f0)).f1)) := hcc55 1 _ rfl; have hx55_2 : w60.cell? ⟨go55, (((J67 l0 x5_1).f0) : Int).toNat * 4 + 2, none⟩ = some (.int .i64 ((J33 x4_1 ((J67 l0 x5_1).f0)).f2)) := hcc55 2 _ rfl; have hx55_3 : w60.cell? ⟨go55, (((J67 l0 x5_1).f0) : Int).toNat * 4 + 3, none⟩ = some (.int .i64 ((J33 x4_1 ((J67 l0 x5_1).f0)).f3)) := hcc55 3 _ rfl; have hf55_0 : w60.frozen? ⟨go55, (((J67 l0 x5_1).f0) : Int).toNat * 4, none⟩ = false := hfr55 0; have hf55_1 : w60.frozen? ⟨go55, (((J67 l0 x5_1).f0) : Int).toNat * 4 + 1, none⟩ = false := hfr55 1; have hf55_2 : w60.frozen? ⟨go55, (((J67 l0 x5_1).f0) : Int).toNat * 4 + 2, none⟩ = false := hfr55 2; have hf55_3 : w60.frozen? ⟨go55, (((J67 l0 x5_1).f0) : Int).toNat * 4 + 3, none⟩ = false := hfr55 3; clear hcl55 hcc55 hfr55 hM55; replace p55 := eq_true p55; replace q55 := eq_true q55; have HX62 := asd (show Kd.R k33 33 w60 w.heap.size (fun _ => True) (.slice (some ⟨go55, 0, none⟩) x4_1.length co55) x4_1 from (skR HO_4.out)); obtain ⟨ce62, hcl62, hM62, hcc62, hfr62⟩ := Kd.R_elem HX62.out z33 (((J67 l0 x5_1).f0) : Int) dt (by have h_ : (((J67 l0 x5_1).f0) : Int) < ((x4_1.length : Int) : Int) := dt; first | exact h_ | (have e_ := (Kd.R_reads' HO_4.out).1; omega) | simpa using h_); obtain rfl := k33_openM hM62; have HP62 := Kd.R_seg HX62.out (((J67 l0 x5_1).f0) : Int) dt (by have h_ : (((J67 l0 x5_1).f0) : Int) < ((x4_1.length : Int) : Int) := dt; first | exact h_ | (have e_ := (Kd.R_reads' HO_4.out).1; omega) | simpa using h_) (seg := [.int .i64 ((J67 l0 x5_1).f2.f0), .int .i64 ((J67 l0 x5_1).f2.f1), .int .i64 ((J67 l0 x5_1).f2.f2), .int .i64 ((J67 l0 x5_1).f2.f3)]) (j := 0) hcl62 hcc62 (show 4 ≤ 4 from by decide) (x' := (⟨((J67 l0 x5_1).f2.f0), ((J67 l0 x5_1).f2.f1), ((J67 l0 x5_1).f2.f2), ((J67 l0 x5_1).f2.f3)⟩ : S33)) (k33_mkM _ _ _ (⟨((J67 l0 x5_1).f2.f0), ((J67 l0 x5_1).f2.f1), ((J67 l0 x5_1).f2.f2), ((J67 l0 x5_1).f2.f3)⟩ : S33) ) (fun _ hk => hk); have hx62_0 := hcc62 0 _ rfl; (try simp only [show (k33).sz = 4 from rfl, Nat.mul_one, Nat.add_zero] at hx62_0); have hf62_0 := hfr62 0; (try simp only [show (k33).sz = 4 from rfl, Nat.mul_one, Nat.add_zero] at hf62_0); have hx62_1 := hcc62 1 _ rfl; (try simp only [show (k33).sz = 4 from rfl, Nat.mul_one, Nat.add_zero] at hx62_1); have hf62_1 := hfr62 1; (try simp only [show (k33).sz = 4 from rfl, Nat.mul_one, Nat.add_zero] at hf62_1); have hx62_2 := hcc62 2 _ rfl; (try simp only [show (k33).sz = 4 from rfl, Nat.mul_one, Nat.add_zero] at hx62_2); have hf62_2 := hfr62 2; (try simp only [show (k33).sz = 4 from rfl, Nat.mul_one, Nat.add_zero] at hf62_2); have hx62_3 := hcc62 3 _ rfl; (try simp only [show (k33).sz = 4 from rfl, Nat.mul_one, Nat.add_zero] at hx62_3); have hf62_3 := hfr62 3; (try simp only [show (k33).sz = 4 from rfl, Nat.mul_one, Nat.add_zero] at hf62_3); clear hcl62 hcc62 hfr62 hM62) | ((with_reducible refine gate_store (t := 33) (p := 88) rfl ?_); refine store_event (t := 33) (p := 88) (v := ?vo_w63) (w1 := ((((w60.setCell ⟨go55, (((J67 l0 x5_1).f0) : Int).toNat * 4, none⟩ (.int .i64 ((J67 l0 x5_1).f2.f0))).setCell ⟨go55, (((J67 l0 x5_1).f0) : Int).toNat * 4 + 1, none⟩ (.int .i64 ((J67 l0 x5_1).f2.f1))).setCell ⟨go55, (((J67 l0 x5_1).f0) : Int).toNat * 4 + 2, none⟩ (.int .i64 ((J67 l0 x5_1).f2.f2))).setCell ⟨go55, (((J67 l0 x5_1).f0) : Int).toNat * 4 + 3, none⟩ (.int .i64 ((J67 l0 x5_1).f2.f3)))) ?hg ?ho ?hn ?hr ?_; (case ho => rfl); (case hg => rfl); (case hn => rfl); (case hr => first | (go_simp; done) | (go_simp; rfl)); intro w63 hw; have hg : w60.grownBy w63 (some go55) := (by rw [hw]; exact HP62.2); have hp_ : Kd.R k33 33 w63 w.heap.size (fun _ => True) (.slice (some ⟨go55, 0, none⟩) x4_1.length co55) y159 := (by rw [hw, Ny159.out]; exact HP62.1); clear HP62; have n0_ := asd (Kd.R_over' (v := (.slice (some ⟨go55, 0, none⟩) x4_1.length co55)) (skR HO_3.out) (Kd.R_typed HO_4.out) (by decide) hg); have n1_ := asd (hp_); have n2_ := asd (blk_grown (g := gb152) (o := .cells #[.int .i64 ((J67 l0 x5_1).f0), .bool ((J67 l0 x5_1).f1), .int .i64 ((J67 l0 x5_1).f2.f0), .int .i64 ((J67 l0 x5_1).f2.f1), .int .i64 ((J67 l0 x5_1).f2.f2), .int .i64 ((J67 l0 x5_1).f2.f3), .bool ((J67 l0 x5_1).f3.f0), .int .i64 ((J67 l0 x5_1).f3.f1), .int .i64 ((J67 l0 x5_1).f3.f2), .slice A151_9 ((J67 l0 x5_1).f3.f3).length c151_9] 67 (0, 0)) (skK BK152.out) hg (Kd.R_ne HO_4.out BK152.out (by decide))); have n3_ := asd ((by rw [hw]; exact below_set (below_set (below_set (below_set (HB.out) GB55.out) GB55.out) GB55.out) GB55.out : Below w.heap.size w w63)); clear HO_3; clear HO_4; clear BK152; clear HB; have HO_3 := n0_; have HO_4 := n1_; have BK152 := n2_; have HB := n3_; clear n0_ n1_ n2_ n3_; clear hg hw hp_))
                go_roundg kj10
                case measure => have := HK1.out; have := HJ10.out; omega
                case rel => exact ⟨(y158), (y159), (wrap64 (x5_1 + 1)), rs, H', ⟨by have := HK1.out; have := HJ10.out; omega⟩, ⟨skR HO_3.out⟩, ⟨skR HO_4.out⟩, ⟨skG HB.out GE152.out GE152.out⟩⟩
               ·
                rw [if_neg c54] at H
                exact absurd H (by simp)
              ·
               rw [if_neg c52] at H
               exact absurd H (by simp)
             ·
              rw [if_neg c51] at H
              exact absurd H (by simp)
            ·
             replace c50 := Bool.eq_false_iff.mpr c50
             subst c50
             have H1 : (some 3) = some r := by rw [if_neg (show ¬ (false = true) by decide)] at H; exact H
             clear H
             have H := H1
             clear H1
             obtain rfl := Option.some.inj H
             try go_wp2
             have n0_ := asd (Kd.R_drew HO_3.out)
             have n1_ := asd (Kd.R_drew HO_4.out)
             have n2_ := asd (blk_drew BK152.out)
             have n3_ := asd (below_drew1 HB.out)
             clear HO_3
             clear HO_4
             clear BK152
             clear HB
             have HO_3 := n0_
             have HO_4 := n1_
             have BK152 := n2_
             have HB := n3_
             clear n0_ n1_ n2_ n3_
             refine start_ (n := 24) (S := fun w' => w'.cell? ⟨gb152, 0, none⟩ = some (.int .i64 ((J67 l0 x5_1).f0)) ∧ w'.cell? ⟨gb152, 1, none⟩ = some (.bool ((J67 l0 x5_1).f1)) ∧ w'.cell? ⟨gb152, 2, none⟩ = some (.int .i64 ((J67 l0 x5_1).f2.f0)) ∧ w'.cell? ⟨gb152, 3, none⟩ = some (.int .i64 ((J67 l0 x5_1).f2.f1)) ∧ w'.cell? ⟨gb152, 4, none⟩ = some (.int .i64 ((J67 l0 x5_1).f2.f2)) ∧ w'.cell? ⟨gb152, 5, none⟩ = some (.int .i64 ((J67 l0 x5_1).f2.f3)) ∧ w'.cell? ⟨gb152, 6, none⟩ = some (.bool ((J67 l0 x5_1).f3.f0)) ∧ w'.cell? ⟨gb152, 7, none⟩ = some (.int .i64 ((J67 l0 x5_1).f3.f1)) ∧ w'.cell? ⟨gb152, 8, none⟩ = some (.int .i64 ((J67 l0 x5_1).f3.f2)) ∧ w'.cell? ⟨gb152, 9, none⟩ = some (.slice A151_9 ((J67 l0 x5_1).f3.f3).length c151_9)) (ds := []) #[false,false,false,false,false,false,false,false,false,false,false,false,false,false,false,false,false,false,false,false,false,false,false,false] (by kernel_rfl) rfl rfl ⟨(blk_cell BK152.out 0).trans rfl, (blk_cell BK152.out 1).trans rfl, (blk_cell BK152.out 2).trans rfl, (blk_cell BK152.out 3).trans rfl, (blk_cell BK152.out 4).trans rfl, (blk_cell BK152.out 5).trans rfl, (blk_cell BK152.out 6).trans rfl, (blk_cell BK152.out 7).trans rfl, (blk_cell BK152.out 8).trans rfl, (blk_cell BK152.out 9).trans rfl⟩ (fun hHeld => ?_); refine with_tabW larchref05_Check.tab11 larchref05_Check.bits11 (fun HT_ HW_ => ?_)
             generalize wc.drew = w64 at HO_3 HO_4 BK152 HB hHeld ⊢
             refine pure_ (i := 0) (N := some 52) (v := ?_) (a' := ?_) #[true,false,false,false,false,false,false,false,false,false,false,false,false,false,false,false,false,false,false,false,false,false,false,false] rfl rfl (aK HT_.out) (fun _ _ _ h => h) (Or.inl ⟨by rfl, ?_⟩) ?_ ?_
             rotate_left
             ·
              intro w'
              go_simp
              with_reducible rfl
             rotate_left
             ·
              simp only [Act.put, sp]
              rfl
             refine take_ (i := 1) (N := some 53) (v := ?_) (a' := ?_) #[true,true,false,false,false,false,false,false,false,false,false,false,false,false,false,false,false,false,false,false,false,false,false,false] rfl rfl (take_ofW HT_.out HW_.out (by kernel_rfl)) (fun _ _ _ h => h) (Or.inl ⟨by rfl, ?_⟩) hHeld ?_ ?_
             rotate_left
             ·
              rintro w' ⟨s0, s1, s2, s3, s4, s5, s6, s7, s8, s9⟩
              go_simp
              with_reducible rfl
             rotate_left
             ·
              simp only [Act.put, sp]
              rfl
             refine pure_ (i := 2) (N := some 54) (v := ?_) (a' := ?_) #[true,true,true,false,false,false,false,false,false,false,false,false,false,false,false,false,false,false,false,false,false,false,false,false] rfl rfl (aK HT_.out) (fun _ _ _ h => h) (Or.inl ⟨by rfl, ?_⟩) ?_ ?_
             rotate_left
             ·
              intro w'
              go_simp
              with_reducible rfl
             rotate_left
             ·
              simp only [Act.put, sp]
              rfl
             refine pure_ (i := 3) (N := some 55) (v := undef) (a' := ?_) #[true,true,true,true,false,false,false,false,false,false,false,false,false,false,false,false,false,false,false,false,false,false,false,false] rfl rfl (aK HT_.out) (fun _ _ _ h => h) (Or.inr ⟨by rfl, rfl⟩) ?_ ?_
             rotate_left
             ·
              simp only [Act.put, sp]
              rfl
             refine pure_ (i := 4) (N := some 56) (v := undef) (a' := ?_) #[true,true,true,true,true,false,false,false,false,false,false,false,false,false,false,false,false,false,false,false,false,false,false,false] rfl rfl (aK HT_.out) (fun _ _ _ h => h) (Or.inr ⟨by rfl, rfl⟩) ?_ ?_
             rotate_left
             ·
              simp only [Act.put, sp]
              rfl
             refine pure_ (i := 5) (N := some 57) (v := undef) (a' := ?_) #[true,true,true,true,true,true,false,false,false,false,false,false,false,false,false,false,false,false,false,false,false,false,false,false] rfl rfl (aK HT_.out) (fun _ _ _ h => h) (Or.inr ⟨by rfl, rfl⟩) ?_ ?_
             rotate_left
             ·
              simp only [Act.put, sp]
              rfl
             refine pure_ (i := 6) (N := some 58) (v := undef) (a' := ?_) #[true,true,true,true,true,true,true,false,false,false,false,false,false,false,false,false,false,false,false,false,false,false,false,false] rfl rfl (aK HT_.out) (fun _ _ _ h => h) (Or.inr ⟨by rfl, rfl⟩) ?_ ?_
             rotate_left
             ·
              simp only [Act.put, sp]
              rfl
             refine pure_ (i := 7) (N := some 59) (v := undef) (a' := ?_) #[true,true,true,true,true,true,true,true,false,false,false,false,false,false,false,false,false,false,false,false,false,false,false,false] rfl rfl (aK HT_.out) (fun _ _ _ h => h) (Or.inr ⟨by rfl, rfl⟩) ?_ ?_
             rotate_left
             ·
              simp only [Act.put, sp]
              rfl
             refine pure_ (i := 8) (N := some 60) (v := undef) (a' := ?_) #[true,true,true,true,true,true,true,true,true,false,false,false,false,false,false,false,false,false,false,false,false,false,false,false] rfl rfl (aK HT_.out) (fun _ _ _ h => h) (Or.inr ⟨by rfl, rfl⟩) ?_ ?_
             rotate_left
             ·
              simp only [Act.put, sp]
              rfl
             refine pure_ (i := 9) (N := some 61) (v := undef) (a' := ?_) #[true,true,true,true,true,true,true,true,true,true,false,false,false,false,false,false,false,false,false,false,false,false,false,false] rfl rfl (aK HT_.out) (fun _ _ _ h => h) (Or.inr ⟨by rfl, rfl⟩) ?_ ?_
             rotate_left
             ·
              simp only [Act.put, sp]
              rfl
             refine pure_ (i := 10) (N := some 62) (v := undef) (a' := ?_) #[true,true,true,true,true,true,true,true,true,true,true,false,false,false,false,false,false,false,false,false,false,false,false,false] rfl rfl (aK HT_.out) (fun _ _ _ h => h) (Or.inr ⟨by rfl, rfl⟩) ?_ ?_
             rotate_left
             ·
              simp only [Act.put, sp]
              rfl
             refine pure_ (i := 11) (N := some 63) (v := ?_) (a' := ?_) #[true,true,true,true,true,true,true,true,true,true,true,true,false,false,false,false,false,false,false,false,false,false,false,false] rfl rfl (aK HT_.out) (fun _ _ _ h => h) (Or.inl ⟨by rfl, ?_⟩) ?_ ?_
             rotate_left
             ·
              intro w'
              go_simp
              with_reducible rfl
             rotate_left
             ·
              simp only [Act.put, sp]
              rfl
             refine pure_ (i := 12) (N := some 64) (v := ?_) (a' := ?_) #[true,true,true,true,true,true,true,true,true,true,true,true,true,false,false,false,false,false,false,false,false,false,false,false] rfl rfl (aK HT_.out) (fun _ _ _ h => h) (Or.inl ⟨by rfl, ?_⟩) ?_ ?_
             rotate_left
             ·
              intro w'
              go_simp
              with_reducible rfl
             rotate_left
             ·
              simp only [Act.put, sp]
              rfl
             refine pure_ (i := 13) (N := some 65) (v := ?_) (a' := ?_) #[true,true,true,true,true,true,true,true,true,true,true,true,true,true,false,false,false,false,false,false,false,false,false,false] rfl rfl (aK HT_.out) (fun _ _ _ h => h) (Or.inl ⟨by rfl, ?_⟩) ?_ ?_
             rotate_left
             ·
              intro w'
              go_simp
              with_reducible rfl
             rotate_left
             ·
              simp only [Act.put, sp]
              rfl
             refine take_ (i := 14) (N := some 66) (v := ?_) (a' := ?_) #[true,true,true,true,true,true,true,true,true,true,true,true,true,true,true,false,false,false,false,false,false,false,false,false] rfl rfl (take_ofW HT_.out HW_.out (by kernel_rfl)) (fun _ _ _ h => h) (Or.inl ⟨by rfl, ?_⟩) hHeld ?_ ?_
             rotate_left
             ·
              rintro w' ⟨s0, s1, s2, s3, s4, s5, s6, s7, s8, s9⟩
              go_simp
              with_reducible rfl
             rotate_left
             ·
              simp only [Act.put, sp]
              rfl
             refine pure_ (i := 15) (N := some 67) (v := ?_) (a' := ?_) #[true,true,true,true,true,true,true,true,true,true,true,true,true,true,true,true,false,false,false,false,false,false,false,false] rfl rfl (aK HT_.out) (fun _ _ _ h => h) (Or.inl ⟨by rfl, ?_⟩) ?_ ?_
             rotate_left
             ·
              intro w'
              go_simp
              with_reducible rfl
             rotate_left
             ·
              simp only [Act.put, sp]
              rfl
             refine pure_ (i := 16) (N := some 68) (v := ?_) (a' := ?_) #[true,true,true,true,true,true,true,true,true,true,true,true,true,true,true,true,true,false,false,false,false,false,false,false] rfl rfl (aK HT_.out) (fun _ _ _ h => h) (Or.inl ⟨by rfl, ?_⟩) ?_ ?_
             rotate_left
             ·
              intro w'
              go_simp
              with_reducible rfl
             rotate_left
             ·
              simp only [Act.put, sp]
              rfl
             refine pure_ (i := 17) (N := some 69) (v := ?_) (a' := ?_) #[true,true,true,true,true,true,true,true,true,true,true,true,true,true,true,true,true,true,false,false,false,false,false,false] rfl rfl (aK HT_.out) (fun _ _ _ h => h) (Or.inl ⟨by rfl, ?_⟩) ?_ ?_
             rotate_left
             ·
              intro w'
              go_simp
              with_reducible rfl
             rotate_left
             ·
              simp only [Act.put, sp]
              rfl
             refine pure_ (i := 19) (N := some 71) (v := ?_) (a' := ?_) #[true,true,true,true,true,true,true,true,true,true,true,true,true,true,true,true,true,true,false,true,false,false,false,false] rfl rfl (aK HT_.out) (fun _ _ _ h => h) (Or.inl ⟨by rfl, ?_⟩) ?_ ?_
             rotate_left
             ·
              intro w'
              go_simp
              with_reducible rfl
             rotate_left
             ·
              simp only [Act.put, sp]
              rfl
             refine take_ (i := 18) (N := some 70) (v := ?_) (a' := ?_) #[true,true,true,true,true,true,true,true,true,true,true,true,true,true,true,true,true,true,true,true,false,false,false,false] rfl rfl (take_ofW HT_.out HW_.out (by kernel_rfl)) (fun _ _ _ h => h) (Or.inl ⟨by rfl, ?_⟩) hHeld ?_ ?_
             rotate_left
             ·
              rintro w' ⟨s0, s1, s2, s3, s4, s5, s6, s7, s8, s9⟩
              go_simp
              with_reducible rfl
             rotate_left
             ·
              simp only [Act.put, sp]
              rfl
             refine one_ (i := 20) (N := some 72) #[true,true,true,true,true,true,true,true,true,true,true,true,true,true,true,true,true,true,true,true,true,false,false,false] rfl rfl (one_of HT_.out (by kernel_rfl)) (by decide) (fun K hK => ?_)
             refine goes_ Try.func63 (by kernel_rfl) rfl #[.agg #[.bool ((J67 l0 x5_1).f3.f0), .int .i64 ((J67 l0 x5_1).f3.f1), .int .i64 ((J67 l0 x5_1).f3.f2), .slice A151_9 ((J67 l0 x5_1).f3.f3).length c151_9], .agg #[.bool false, .int .i64 0, .int .i64 0, .slice none 0 0]] (by rfl) rfl rfl ags ?_
             refine (larchref05_SameRet.calls kj10 ((J67 l0 x5_1).f3.f0) ((J67 l0 x5_1).f3.f1) ((J67 l0 x5_1).f3.f2) _ _ ((J67 l0 x5_1).f3.f3) false 0 0 _ _ ([] : List (S70)) false _ ?side1 ?side2 ?side3 ?side4 A49.out).mono ?_
             (case side1 => exact skC (Kd.C_below HR151_9.out HB.out))
             (case side2 => exact HC151_9.out)
             (case side3 => exact Kd.C_nil _ _)
             (case side4 => exact Nat.le_refl _)
             rintro e w65 ⟨rfl, hb⟩
             refine ⟨_, rfl, ?_⟩
             have n0_ := asd (Kd.R_below (skR HO_3.out) hb)
             have n1_ := asd (Kd.R_below (skR HO_4.out) hb)
             have n2_ := asd (blk_below (g := gb152) (o := .cells #[.int .i64 ((J67 l0 x5_1).f0), .bool ((J67 l0 x5_1).f1), .int .i64 ((J67 l0 x5_1).f2.f0), .int .i64 ((J67 l0 x5_1).f2.f1), .int .i64 ((J67 l0 x5_1).f2.f2), .int .i64 ((J67 l0 x5_1).f2.f3), .bool ((J67 l0 x5_1).f3.f0), .int .i64 ((J67 l0 x5_1).f3.f1), .int .i64 ((J67 l0 x5_1).f3.f2), .slice A151_9 ((J67 l0 x5_1).f3.f3).length c151_9] 67 (0, 0)) (skK BK152.out) hb)
             have n3_ := asd (below_step (skG HB.out GE152.out GE152.out) hb)
             clear HO_3
             clear HO_4
             clear BK152
             clear HB
             have HO_3 := n0_
             have HO_4 := n1_
             have BK152 := n2_
             have HB := n3_
             clear n0_ n1_ n2_ n3_
             (try clear hb)
             (try clear hb2)
             (try clear hk)
             (try clear hi)
             refine hK.out _ _ ⟨(blk_cell BK152.out 0).trans rfl, (blk_cell BK152.out 1).trans rfl, (blk_cell BK152.out 2).trans rfl, (blk_cell BK152.out 3).trans rfl, (blk_cell BK152.out 4).trans rfl, (blk_cell BK152.out 5).trans rfl, (blk_cell BK152.out 6).trans rfl, (blk_cell BK152.out 7).trans rfl, (blk_cell BK152.out 8).trans rfl, (blk_cell BK152.out 9).trans rfl⟩ (fun hHeld => ?_)
             clear hK K
             refine norm_ (a' := ?_) ?_ ?_
             rotate_left
             ·
              show Act.put _ (some 72) _ = _
              simp only [Act.put, sp]
              rfl
             refine pure_ (i := 21) (N := some 73) (v := ?_) (a' := ?_) #[true,true,true,true,true,true,true,true,true,true,true,true,true,true,true,true,true,true,true,true,true,true,false,false] rfl rfl (aK HT_.out) (fun _ _ _ h => h) (Or.inl ⟨by rfl, ?_⟩) ?_ ?_
             rotate_left
             ·
              intro w'
              go_simp
              with_reducible rfl
             rotate_left
             ·
              simp only [Act.put, sp]
              rfl
             refine pure_ (i := 22) (N := some 74) (v := ?_) (a' := ?_) #[true,true,true,true,true,true,true,true,true,true,true,true,true,true,true,true,true,true,true,true,true,true,true,false] rfl rfl (aK HT_.out) (fun _ _ _ h => h) (Or.inl ⟨by rfl, ?_⟩) ?_ ?_
             rotate_left
             ·
              intro w'
              go_simp
              with_reducible rfl
             rotate_left
             ·
              simp only [Act.put, sp]
              rfl
             refine pure_ (i := 23) (N := some 75) (v := ?_) (a' := ?_) #[true,true,true,true,true,true,true,true,true,true,true,true,true,true,true,true,true,true,true,true,true,true,true,true] rfl rfl (aK HT_.out) (fun _ _ _ h => h) (Or.inl ⟨by rfl, ?_⟩) ?_ ?_
             rotate_left
             ·
              intro w'
              go_simp
              with_reducible rfl
             rotate_left
             ·
              simp only [Act.put, sp]
              rfl
             refine done_ (done_of HT_.out (by kernel_rfl)) ?_
             try go_wp2
             go_ret
             exact ⟨re, skG HB.out GE152.out GE152.out⟩
       ·
        rw [if_neg c10] at H
        exact absurd H (by simp)
      ·
       rw [if_neg c9] at H
       have c9b0 : decide (x5_1 < (l0.length : Int)) = false := decide_eq_false c9
       clear c9
       obtain rfl := Option.some.inj H
       go_wp2
       go_ret
       exact ⟨re, skB HB.out⟩
   ·
    rw [if_neg c4] at H
    exact absurd H (by simp)
  ·
   rw [if_neg c3] at H
   exact absurd H (by simp)
end Go.Proofs.Ytagdkmcgepidoaa.P
