/- P.modelLists_holds, part 4 of 33: the contracts of the Go functions that the law calls, its own walk, and its plain law, for every input that the statement speaks of. -/
import Derived.Test.YtanlnfcjdjamaaaMLi2
import Derived.Test.YtanlnfcjdjamaaaMLi1
set_option linter.unusedVariables false
set_option linter.unusedSimpArgs false
/- F56 -/
namespace Go.Proofs.Ytanlnfcjdjamaaa.P
open Go.RowKit Go.Proofs.YtanlnfcjdjamaaaW.PrintWords Go.Proofs.YtanlnfcjdjamaaaW.PrintLast Go.Proofs.YtanlnfcjdjamaaaW.PrintMore
attribute [local go_sem] max2_int min2_int max_two min_two max_three min_three max_four min_four   -- for this text's walks alone
set_option linter.unusedVariables false
set_option linter.unusedSimpArgs false
mutual
def model_Plain.j0 : Nat → Int → Bool → Int → Int → Int → Int → Int → Int → Int → Int → Option (Int × Int × Int × Int)
 | 0, _, _, _, _, _, _, _, _, _, _ => none
 | k + 1, x8, x9, x465000, x465001, x465002, x465003, x467000, x467001, x467002, x467003 => if x9 = true then (some (x467000, x465001, x467002, x467003)) else (if x8 = 2 then (model_Plain.j1 k x8 (x8 == 2) x465000 x465001 x465002 x465003 x467000 x467001 x467002 x467003) else (model_Plain.j1 k x8 (x8 == 3) x465000 x465001 x465002 x465003 x467000 x467001 x467002 x467003))
def model_Plain.j1 : Nat → Int → Bool → Int → Int → Int → Int → Int → Int → Int → Int → Option (Int × Int × Int × Int)
 | 0, _, _, _, _, _, _, _, _, _, _ => none
 | k + 1, x8, x17, x465000, x465001, x465002, x465003, x467000, x467001, x467002, x467003 => if x17 = true then (some (x467000, x465001, x465002, x467003)) else (if x8 = 9 then (some (x467000, x465001, x467002, x465003)) else (some (x467000, x467001, x467002, x467003)))
end
def model_Plain.f (k : Nat) (a0_0 : Int) (a0_1 : Int) (a0_2 : Int) (a0_3 : Int) : Option (Int × Int × Int × Int) := if a0_0 = 1 then (model_Plain.j0 k a0_0 (a0_0 == 1) a0_0 a0_1 a0_2 a0_3 a0_0 0 0 0) else (if a0_0 = 4 then (model_Plain.j0 k a0_0 (a0_0 == 4) a0_0 a0_1 a0_2 a0_3 a0_0 0 0 0) else (if a0_0 = 5 then (model_Plain.j0 k a0_0 (a0_0 == 5) a0_0 a0_1 a0_2 a0_3 a0_0 0 0 0) else (model_Plain.j0 k a0_0 (a0_0 == 6) a0_0 a0_1 a0_2 a0_3 a0_0 0 0 0)))
theorem model_Plain.mono_l : ∀ k, (∀ y0 y1 y2 y3 y4 y5 y6 y7 y8 y9, LeO (model_Plain.j0 k y0 y1 y2 y3 y4 y5 y6 y7 y8 y9) (model_Plain.j0 (k + 1) y0 y1 y2 y3 y4 y5 y6 y7 y8 y9)) ∧ (∀ y0 y1 y2 y3 y4 y5 y6 y7 y8 y9, LeO (model_Plain.j1 k y0 y1 y2 y3 y4 y5 y6 y7 y8 y9) (model_Plain.j1 (k + 1) y0 y1 y2 y3 y4 y5 y6 y7 y8 y9))
 | 0 => ⟨fun _ _ _ _ _ _ _ _ _ _ r h => by simp [model_Plain.j0] at h, fun _ _ _ _ _ _ _ _ _ _ r h => by simp [model_Plain.j1] at h⟩
 | k + 1 => by
  obtain ⟨ih0, ih1⟩ := model_Plain.mono_l k
  refine ⟨?_, ?_⟩
  ·
   intro y0 y1 y2 y3 y4 y5 y6 y7 y8 y9
   unfold model_Plain.j0
   repeat' first
   | (with_reducible exact ih0 _ _ _ _ _ _ _ _ _ _)
   | (with_reducible exact ih1 _ _ _ _ _ _ _ _ _ _)
   | (with_reducible exact LeO.refl _)
   | (with_reducible exact LeO.none _)
   | (with_reducible refine LeO.ite ?_ ?_)
   | (with_reducible refine LeO.bind ?_ (fun _ => ?_))
   | exact ih0 _ _ _ _ _ _ _ _ _ _
   | exact ih1 _ _ _ _ _ _ _ _ _ _
   | exact LeO.none _
   | refine LeO.ite ?_ ?_
   | refine LeO.bind ?_ (fun _ => ?_)
  ·
   intro y0 y1 y2 y3 y4 y5 y6 y7 y8 y9
   unfold model_Plain.j1
   repeat' first
   | (with_reducible exact ih0 _ _ _ _ _ _ _ _ _ _)
   | (with_reducible exact ih1 _ _ _ _ _ _ _ _ _ _)
   | (with_reducible exact LeO.refl _)
   | (with_reducible exact LeO.none _)
   | (with_reducible refine LeO.ite ?_ ?_)
   | (with_reducible refine LeO.bind ?_ (fun _ => ?_))
   | exact ih0 _ _ _ _ _ _ _ _ _ _
   | exact ih1 _ _ _ _ _ _ _ _ _ _
   | exact LeO.none _
   | refine LeO.ite ?_ ?_
   | refine LeO.bind ?_ (fun _ => ?_)
theorem model_Plain.mono : ∀ a0 a1 a2 a3 k, LeO (model_Plain.f k a0 a1 a2 a3) (model_Plain.f (k + 1) a0 a1 a2 a3) := by
 intro a0 a1 a2 a3 k
 obtain ⟨ih0, ih1⟩ := model_Plain.mono_l k
 unfold model_Plain.f
 repeat' first
   | (with_reducible exact ih0 _ _ _ _ _ _ _ _ _ _)
   | (with_reducible exact ih1 _ _ _ _ _ _ _ _ _ _)
   | (with_reducible exact LeO.refl _)
   | (with_reducible exact LeO.none _)
   | (with_reducible refine LeO.ite ?_ ?_)
   | (with_reducible refine LeO.bind ?_ (fun _ => ?_))
   | exact ih0 _ _ _ _ _ _ _ _ _ _
   | exact ih1 _ _ _ _ _ _ _ _ _ _
   | exact LeO.none _
   | refine LeO.ite ?_ ?_
   | refine LeO.bind ?_ (fun _ => ?_)
def model_Plain.T10 : Bool × List (List Nat × List Nat) := (true, [([], []), ([0], [0]), ([], []), ([2], [2]), ([0, 1], []), ([4, 1, 0, 1], [1, 4]), ([0, 1, 2, 3, 4, 5], []), ([6, 3, 5, 0, 1, 2, 3, 4, 5], [3, 6])])
def model_Plain.B10 : List Nat := [0, 1, 0, 4, 3, 19, 63, 127]
theorem model_Plain.tab10 : rtab .any (opsOf Try.f32 10) = model_Plain.T10 := by kernel_rfl
theorem model_Plain.bits10 : waitsOk model_Plain.T10.2 model_Plain.B10 = true := by kernel_rfl
def model_Plain.T12 : Bool × List (List Nat × List Nat) := (true, [([], []), ([0], [0]), ([], []), ([2], [2]), ([0, 1], []), ([4, 1, 0, 1], [1, 4]), ([0, 1, 2, 3, 4, 5], []), ([6, 3, 5, 0, 1, 2, 3, 4, 5], [3, 6])])
def model_Plain.B12 : List Nat := [0, 1, 0, 4, 3, 19, 63, 127]
theorem model_Plain.tab12 : rtab .any (opsOf Try.f32 12) = model_Plain.T12 := by kernel_rfl
theorem model_Plain.bits12 : waitsOk model_Plain.T12.2 model_Plain.B12 = true := by kernel_rfl
set_option maxHeartbeats 8000000 in
set_option maxRecDepth 100000 in
theorem model_Plain.calls (k : Nat) (a0_0 : Int) (a0_1 : Int) (a0_2 : Int) (a0_3 : Int) (r1 : Int) (r2 : Int) (r3 : Int) (r4 : Int) (w : World) (h : model_Plain.f k a0_0 a0_1 a0_2 a0_3 = some (r1, r2, r3, r4)) :
  Calls Try.prog 32 #[.agg #[.int .i64 a0_0, .int .i64 a0_1, .int .i64 a0_2, .int .i64 a0_3]] w fun e w' => e = .returned (.agg #[.int .i64 r1, .int .i64 r2, .int .i64 r3, .int .i64 r4]) ∧ Below w.heap.size w w' := by
 have hu25 := Try.underlying25
 have HB := asd (Below.refl w.heap.size w)
 have H : (if a0_0 = 1 then (model_Plain.j0 k a0_0 (a0_0 == 1) a0_0 a0_1 a0_2 a0_3 a0_0 0 0 0) else (if a0_0 = 4 then (model_Plain.j0 k a0_0 (a0_0 == 4) a0_0 a0_1 a0_2 a0_3 a0_0 0 0 0) else (if a0_0 = 5 then (model_Plain.j0 k a0_0 (a0_0 == 5) a0_0 a0_1 a0_2 a0_3 a0_0 0 0 0) else (model_Plain.j0 k a0_0 (a0_0 == 6) a0_0 a0_1 a0_2 a0_3 a0_0 0 0 0)))) = some (r1, r2, r3, r4) := h
 clear h
 have HC2 := asd H
 clear H
 go_enter Try.func32, Try.ntmps32
 go_upto_if 9 with (first | ((with_reducible refine gate_dst (N := 1) rfl ?_); refine box_event ?hg (N := 1) ?hd (cs := #[.int .i64 a0_0, .int .i64 a0_1, .int .i64 a0_2, .int .i64 a0_3]) (t := 25) ?hr ?_; (case hd => rfl); (case hg => rfl); (case hr => first | (go_simp; done) | (go_simp; rfl)); intro gb464 hg w3 hbox hb; have n0_ := asd (below_step (skB HB.out) hb); have n1_ := asd (hbox); have n2_ := asd ((by rw [hg]; exact (below_size (skB HB.out)) : w.heap.size ≤ gb464)); have n3_ := asd ((by rw [hg]; exact (below_size (skB HB.out)) : w.heap.size ≤ gb464)); clear HB; have HB := n0_; have BK464 := n1_; have GW464 := n2_; have GE464 := n3_; clear n0_ n1_ n2_ n3_; clear hb hbox hg) | ((with_reducible refine gate_dst (N := 2) rfl ?_); refine box_event ?hg (N := 2) ?hd (cs := #[.int .i64 0, .int .i64 0, .int .i64 0, .int .i64 0]) (t := 25) ?hr ?_; (case hd => rfl); (case hg => rfl); (case hr => first | (go_simp; done) | (go_simp; rfl)); intro gb465 hg w4 hbox hb; have n0_ := asd (blk_below (g := gb464) (o := .cells #[.int .i64 a0_0, .int .i64 a0_1, .int .i64 a0_2, .int .i64 a0_3] 25 (0, 0)) (skK BK464.out) hb); have n1_ := asd (below_step (skG HB.out GE464.out GE464.out) hb); have n2_ := asd (hbox); have n3_ := asd ((by rw [hg]; exact (below_size (skG HB.out GE464.out GE464.out)) : w.heap.size ≤ gb465)); have n4_ := asd ((by rw [hg]; exact (below_size (skG HB.out GE464.out GE464.out)) : w.heap.size ≤ gb465)); have n5_ := asd ((by rw [hg]; exact Nat.ne_of_lt (blk_lt (g := gb464) (o := .cells #[.int .i64 a0_0, .int .i64 a0_1, .int .i64 a0_2, .int .i64 a0_3] 25 (0, 0)) (skK BK464.out)) : gb464 ≠ gb465)); have n6_ := asd ((by rw [hg]; exact Nat.ne_of_gt (blk_lt (g := gb464) (o := .cells #[.int .i64 a0_0, .int .i64 a0_1, .int .i64 a0_2, .int .i64 a0_3] 25 (0, 0)) (skK BK464.out)) : gb465 ≠ gb464)); clear BK464; clear HB; have BK464 := n0_; have HB := n1_; have BK465 := n2_; have GW465 := n3_; have GE465 := n4_; have NB464_465 := n5_; have NB465_464 := n6_; clear n0_ n1_ n2_ n3_ n4_ n5_ n6_; clear hb hbox hg; have hnb5 := NB464_465.out; have hnc5 := NB465_464.out; obtain ⟨hcz6_0, hcz6_1, hcz6_2, hcz6_3, hfz6_0, hfz6_1, hfz6_2, hfz6_3⟩ := bk4 BK464.out) | ((with_reducible refine gate_dst (N := 3) rfl ?_); refine box_event ?hg (N := 3) ?hd (cs := #[.int .i64 0, .int .i64 0, .int .i64 0, .int .i64 0]) (t := 25) ?hr ?_; (case hd => rfl); (case hg => rfl); (case hr => first | (go_simp; done) | (go_simp; rfl)); intro gb466 hg w7 hbox hb; have n0_ := asd (blk_below (g := gb464) (o := .cells #[.int .i64 a0_0, .int .i64 a0_1, .int .i64 a0_2, .int .i64 a0_3] 25 (0, 0)) (skK BK464.out) hb); have n1_ := asd (blk_below (g := gb465) (o := .cells #[.int .i64 0, .int .i64 0, .int .i64 0, .int .i64 0] 25 (0, 0)) (skK BK465.out) hb); have n2_ := asd (below_step (skG HB.out GE464.out GE465.out) hb); have n3_ := asd (hbox); have n4_ := asd ((by rw [hg]; exact (below_size (skG HB.out GE464.out GE465.out)) : w.heap.size ≤ gb466)); have n5_ := asd ((by rw [hg]; exact (below_size (skG HB.out GE464.out GE465.out)) : w.heap.size ≤ gb466)); have n6_ := asd ((by rw [hg]; exact Nat.ne_of_lt (blk_lt (g := gb464) (o := .cells #[.int .i64 a0_0, .int .i64 a0_1, .int .i64 a0_2, .int .i64 a0_3] 25 (0, 0)) (skK BK464.out)) : gb464 ≠ gb466)); have n7_ := asd ((by rw [hg]; exact Nat.ne_of_gt (blk_lt (g := gb464) (o := .cells #[.int .i64 a0_0, .int .i64 a0_1, .int .i64 a0_2, .int .i64 a0_3] 25 (0, 0)) (skK BK464.out)) : gb466 ≠ gb464)); have n8_ := asd ((by rw [hg]; exact Nat.ne_of_lt (blk_lt (g := gb465) (o := .cells #[.int .i64 0, .int .i64 0, .int .i64 0, .int .i64 0] 25 (0, 0)) (skK BK465.out)) : gb465 ≠ gb466)); have n9_ := asd ((by rw [hg]; exact Nat.ne_of_gt (blk_lt (g := gb465) (o := .cells #[.int .i64 0, .int .i64 0, .int .i64 0, .int .i64 0] 25 (0, 0)) (skK BK465.out)) : gb466 ≠ gb465)); clear BK464; clear BK465; clear HB; have BK464 := n0_; have BK465 := n1_; have HB := n2_; have BK466 := n3_; have GW466 := n4_; have GE466 := n5_; have NB464_466 := n6_; have NB466_464 := n7_; have NB465_466 := n8_; have NB466_465 := n9_; clear n0_ n1_ n2_ n3_ n4_ n5_ n6_ n7_ n8_ n9_; clear hb hbox hg; have hnb8 := NB466_464.out; have hnc8 := NB464_466.out; have hnb9 := NB466_465.out; have hnc9 := NB465_466.out; obtain ⟨hcz10_0, hcz10_1, hcz10_2, hcz10_3, hfz10_0, hfz10_1, hfz10_2, hfz10_3⟩ := bk4 BK466.out; obtain ⟨hcz11_0, hcz11_1, hcz11_2, hcz11_3, hfz11_0, hfz11_1, hfz11_2, hfz11_3⟩ := bk4 BK464.out))
 (try simp only [Act.put, List.setIfInBounds_toArray, List.set_cons_zero, List.set_cons_succ])
 go_cut [9] (fun v9 wc => ∃ (kq : Nat) (x9_1 : Bool), v9 = .bool x9_1 ∧ Aside0 (model_Plain.j0 kq a0_0 x9_1 a0_0 a0_1 a0_2 a0_3 a0_0 0 0 0 = some (r1, r2, r3, r4)) ∧ Aside0 (kq ≤ k) ∧ Aside0 (wc.heap[gb464]? = some (.cells #[.int .i64 a0_0, .int .i64 a0_1, .int .i64 a0_2, .int .i64 a0_3] 25 (0, 0))) ∧ Aside0 (wc.heap[gb465]? = some (.cells #[.int .i64 0, .int .i64 0, .int .i64 0, .int .i64 0] 25 (0, 0))) ∧ Aside0 (wc.heap[gb466]? = some (.cells #[.int .i64 a0_0, .int .i64 0, .int .i64 0, .int .i64 0] 25 (0, 0))) ∧ Aside0 (Below w.heap.size w wc))
 case first =>
  have H := HC2.out
  clear HC2
  by_cases c12 : a0_0 = 1
  ·
   rw [if_pos c12] at H
   have c12b0 : (a0_0 == 1) = true := beq_iff_eq.mpr c12
   have c12b1 : (a0_0 != 1) = false := bne_eq_false_iff_eq.mpr c12
   clear c12
   (first | rw [c12b0] | (simp only [i64_w, i32_w]; rw [c12b0]) | skip)
   have H' := asd H
   clear H
   go_wp2
   go_meet
   case rel => exact ⟨_, ((a0_0 == 1)), rs, H', ⟨by first | omega | exact Nat.le_refl _⟩, ⟨by refine skk ?_; refine blk_far ?_ NB464_466.out _; refine skk ?_; refine blk_far ?_ NB464_466.out _; refine skk ?_; refine blk_far ?_ NB464_466.out _; refine skk ?_; refine blk_far ?_ NB464_466.out _; refine skk ?_; exact BK464.out⟩, ⟨by refine skk ?_; refine blk_far ?_ NB465_466.out _; refine skk ?_; refine blk_far ?_ NB465_466.out _; refine skk ?_; refine blk_far ?_ NB465_466.out _; refine skk ?_; refine blk_far ?_ NB465_466.out _; refine skk ?_; exact BK465.out⟩, ⟨by refine skk ?_; refine blk_put (cs := #[.int .i64 a0_0, .int .i64 0, .int .i64 0, .int .i64 0]) ?_ 3 _ rfl; refine skk ?_; refine blk_put (cs := #[.int .i64 a0_0, .int .i64 0, .int .i64 0, .int .i64 0]) ?_ 2 _ rfl; refine skk ?_; refine blk_put (cs := #[.int .i64 a0_0, .int .i64 0, .int .i64 0, .int .i64 0]) ?_ 1 _ rfl; refine skk ?_; refine blk_put (cs := #[.int .i64 0, .int .i64 0, .int .i64 0, .int .i64 0]) ?_ 0 _ rfl; refine skk ?_; exact BK466.out⟩, ⟨by repeat (first | (with_reducible first | exact HB.out | apply below_alloc | apply pw_below_drewN | apply below_drew1 | refine below_set ?_ GE464.out | refine below_set ?_ GE465.out | refine below_set ?_ GE466.out) | exact HB.out)⟩⟩
  ·
   rw [if_neg c12] at H
   have c12b0 : (a0_0 == 1) = false := beq_eq_false_iff_ne.mpr c12
   have c12b1 : (a0_0 != 1) = true := bne_iff_ne.mpr c12
   (first | rw [c12b0] | (simp only [i64_w, i32_w]; rw [c12b0]) | skip)
   by_cases c13 : a0_0 = 4
   ·
    rw [if_pos c13] at H
    have c13b0 : (a0_0 == 4) = true := beq_iff_eq.mpr c13
    have c13b1 : (a0_0 != 4) = false := bne_eq_false_iff_eq.mpr c13
    clear c13
    have H' := asd H
    clear H
    go_wp2
    go_meet
    case rel => exact ⟨_, ((a0_0 == 4)), rs, H', ⟨by first | omega | exact Nat.le_refl _⟩, ⟨by refine skk ?_; refine blk_far ?_ NB464_466.out _; refine skk ?_; refine blk_far ?_ NB464_466.out _; refine skk ?_; refine blk_far ?_ NB464_466.out _; refine skk ?_; refine blk_far ?_ NB464_466.out _; refine skk ?_; exact BK464.out⟩, ⟨by refine skk ?_; refine blk_far ?_ NB465_466.out _; refine skk ?_; refine blk_far ?_ NB465_466.out _; refine skk ?_; refine blk_far ?_ NB465_466.out _; refine skk ?_; refine blk_far ?_ NB465_466.out _; refine skk ?_; exact BK465.out⟩, ⟨by refine skk ?_; refine blk_put (cs := #[.int .i64 a0_0, .int .i64 0, .int .i64 0, .int .i64 0]) ?_ 3 _ rfl; refine skk ?_; refine blk_put (cs := #[.int .i64 a0_0, .int .i64 0, .int .i64 0, .int .i64 0]) ?_ 2 _ rfl; refine skk ?_; refine blk_put (cs := #[.int .i64 a0_0, .int .i64 0, .int .i64 0, .int .i64 0]) ?_ 1 _ rfl; refine skk ?_; refine blk_put (cs := #[.int .i64 0, .int .i64 0, .int .i64 0, .int .i64 0]) ?_ 0 _ rfl; refine skk ?_; exact BK466.out⟩, ⟨by repeat (first | (with_reducible first | exact HB.out | apply below_alloc | apply pw_below_drewN | apply below_drew1 | refine below_set ?_ GE464.out | refine below_set ?_ GE465.out | refine below_set ?_ GE466.out) | exact HB.out)⟩⟩
   ·
    rw [if_neg c13] at H
    have c13b0 : (a0_0 == 4) = false := beq_eq_false_iff_ne.mpr c13
    have c13b1 : (a0_0 != 4) = true := bne_iff_ne.mpr c13
    by_cases c14 : a0_0 = 5
    ·
     rw [if_pos c14] at H
     have c14b0 : (a0_0 == 5) = true := beq_iff_eq.mpr c14
     have c14b1 : (a0_0 != 5) = false := bne_eq_false_iff_eq.mpr c14
     clear c14
     have H' := asd H
     clear H
     go_wp2
     go_meet
     case rel => exact ⟨_, ((a0_0 == 5)), rs, H', ⟨by first | omega | exact Nat.le_refl _⟩, ⟨by refine skk ?_; refine blk_far ?_ NB464_466.out _; refine skk ?_; refine blk_far ?_ NB464_466.out _; refine skk ?_; refine blk_far ?_ NB464_466.out _; refine skk ?_; refine blk_far ?_ NB464_466.out _; refine skk ?_; exact BK464.out⟩, ⟨by refine skk ?_; refine blk_far ?_ NB465_466.out _; refine skk ?_; refine blk_far ?_ NB465_466.out _; refine skk ?_; refine blk_far ?_ NB465_466.out _; refine skk ?_; refine blk_far ?_ NB465_466.out _; refine skk ?_; exact BK465.out⟩, ⟨by refine skk ?_; refine blk_put (cs := #[.int .i64 a0_0, .int .i64 0, .int .i64 0, .int .i64 0]) ?_ 3 _ rfl; refine skk ?_; refine blk_put (cs := #[.int .i64 a0_0, .int .i64 0, .int .i64 0, .int .i64 0]) ?_ 2 _ rfl; refine skk ?_; refine blk_put (cs := #[.int .i64 a0_0, .int .i64 0, .int .i64 0, .int .i64 0]) ?_ 1 _ rfl; refine skk ?_; refine blk_put (cs := #[.int .i64 0, .int .i64 0, .int .i64 0, .int .i64 0]) ?_ 0 _ rfl; refine skk ?_; exact BK466.out⟩, ⟨by repeat (first | (with_reducible first | exact HB.out | apply below_alloc | apply pw_below_drewN | apply below_drew1 | refine below_set ?_ GE464.out | refine below_set ?_ GE465.out | refine below_set ?_ GE466.out) | exact HB.out)⟩⟩
    ·
     rw [if_neg c14] at H
     have c14b0 : (a0_0 == 5) = false := beq_eq_false_iff_ne.mpr c14
     have c14b1 : (a0_0 != 5) = true := bne_iff_ne.mpr c14
     have H' := asd H
     clear H
     go_wp2
     go_meet
     case rel => exact ⟨_, ((a0_0 == 6)), rs, H', ⟨by first | omega | exact Nat.le_refl _⟩, ⟨by refine skk ?_; refine blk_far ?_ NB464_466.out _; refine skk ?_; refine blk_far ?_ NB464_466.out _; refine skk ?_; refine blk_far ?_ NB464_466.out _; refine skk ?_; refine blk_far ?_ NB464_466.out _; refine skk ?_; exact BK464.out⟩, ⟨by refine skk ?_; refine blk_far ?_ NB465_466.out _; refine skk ?_; refine blk_far ?_ NB465_466.out _; refine skk ?_; refine blk_far ?_ NB465_466.out _; refine skk ?_; refine blk_far ?_ NB465_466.out _; refine skk ?_; exact BK465.out⟩, ⟨by refine skk ?_; refine blk_put (cs := #[.int .i64 a0_0, .int .i64 0, .int .i64 0, .int .i64 0]) ?_ 3 _ rfl; refine skk ?_; refine blk_put (cs := #[.int .i64 a0_0, .int .i64 0, .int .i64 0, .int .i64 0]) ?_ 2 _ rfl; refine skk ?_; refine blk_put (cs := #[.int .i64 a0_0, .int .i64 0, .int .i64 0, .int .i64 0]) ?_ 1 _ rfl; refine skk ?_; refine blk_put (cs := #[.int .i64 0, .int .i64 0, .int .i64 0, .int .i64 0]) ?_ 0 _ rfl; refine skk ?_; exact BK466.out⟩, ⟨by repeat (first | (with_reducible first | exact HB.out | apply below_alloc | apply pw_below_drewN | apply below_drew1 | refine below_set ?_ GE464.out | refine below_set ?_ GE465.out | refine below_set ?_ GE466.out) | exact HB.out)⟩⟩
 case rest =>
  clear HC2
  try clear c1
  try clear p2
  try clear c3
  try clear c5
  try clear c8
  try clear c9
  try clear c12
  try clear c12b0
  try clear c12b1
  try clear c13
  try clear c13b0
  try clear c13b1
  try clear c14
  try clear c14b0
  try clear c14b1
  try clear hcz10_0
  try clear hcz10_1
  try clear hcz10_2
  try clear hcz10_3
  try clear hcz11_0
  try clear hcz11_1
  try clear hcz11_2
  try clear hcz11_3
  try clear hcz6_0
  try clear hcz6_1
  try clear hcz6_2
  try clear hcz6_3
  try clear hfz10_0
  try clear hfz10_1
  try clear hfz10_2
  try clear hfz10_3
  try clear hfz11_0
  try clear hfz11_1
  try clear hfz11_2
  try clear hfz11_3
  try clear hfz6_0
  try clear hfz6_1
  try clear hfz6_2
  try clear hfz6_3
  obtain ⟨kq, x9_1, rfl, HA, HJ1, BK464, BK465, BK466, HB⟩ := hcut
  cases kq with
  | zero => exact absurd HA.out (by simp [model_Plain.j0])
  | succ kj1 =>
   have H := HA.out
   clear HA
   simp only [model_Plain.j0] at H
   by_cases c15 : x9_1 = true
   ·
    subst c15
    have H1 : (some (a0_0, a0_1, 0, 0)) = some (r1, r2, r3, r4) := by rw [if_pos rfl] at H; exact H
    clear H
    have H := H1
    clear H1
    simp only [Option.some.injEq, Prod.mk.injEq] at H
    obtain ⟨rfl, rfl, rfl, rfl⟩ := H
    have hnb16 := NB464_465.out
    have hnc16 := NB465_464.out
    have hnb17 := NB464_466.out
    have hnc17 := NB466_464.out
    obtain ⟨hcz18_0, hcz18_1, hcz18_2, hcz18_3, hfz18_0, hfz18_1, hfz18_2, hfz18_3⟩ := bk4 BK464.out
    have hnb19 := NB466_465.out
    have hnc19 := NB465_466.out
    obtain ⟨hcz20_0, hcz20_1, hcz20_2, hcz20_3, hfz20_0, hfz20_1, hfz20_2, hfz20_3⟩ := bk4 BK466.out
    obtain ⟨hcz21_0, hcz21_1, hcz21_2, hcz21_3, hfz21_0, hfz21_1, hfz21_2, hfz21_3⟩ := bk4 BK465.out
    go_wp2
    refine bodyPost_ret (results_cell_row rfl _ _ gb465 25 #[.int .i64 a0_0, .int .i64 a0_1, .int .i64 0, .int .i64 0] (0, 0) _ rfl (by refine skk ?_; refine blk_put (cs := #[.int .i64 a0_0, .int .i64 a0_1, .int .i64 0, .int .i64 0]) ?_ 3 _ rfl; refine skk ?_; refine blk_put (cs := #[.int .i64 a0_0, .int .i64 a0_1, .int .i64 0, .int .i64 0]) ?_ 2 _ rfl; refine skk ?_; refine blk_put (cs := #[.int .i64 a0_0, .int .i64 0, .int .i64 0, .int .i64 0]) ?_ 1 _ rfl; refine skk ?_; refine blk_put (cs := #[.int .i64 0, .int .i64 0, .int .i64 0, .int .i64 0]) ?_ 0 _ rfl; refine skk ?_; refine blk_far ?_ NB465_466.out _; refine skk ?_; exact BK465.out) Try.underlying25 rfl (by kernel_rfl)) rfl ?_
    exact ⟨re, by repeat (first | (with_reducible first | exact HB.out | apply below_alloc | apply pw_below_drewN | apply below_drew1 | refine below_set ?_ GE464.out | refine below_set ?_ GE465.out | refine below_set ?_ GE466.out) | exact HB.out)⟩
   ·
    replace c15 := Bool.eq_false_iff.mpr c15
    subst c15
    have H1 : (if a0_0 = 2 then (model_Plain.j1 kj1 a0_0 (a0_0 == 2) a0_0 a0_1 a0_2 a0_3 a0_0 0 0 0) else (model_Plain.j1 kj1 a0_0 (a0_0 == 3) a0_0 a0_1 a0_2 a0_3 a0_0 0 0 0)) = some (r1, r2, r3, r4) := by rw [if_neg (show ¬ (false = true) by decide)] at H; exact H
    clear H
    have H := H1
    clear H1
    have HC22 := asd H
    clear H
    go_upto_if 17 with (fail)
    go_cut [17] (fun v17 wc => ∃ (kq : Nat) (x17_21 : Bool), v17 = .bool x17_21 ∧ Aside0 (model_Plain.j1 kq a0_0 x17_21 a0_0 a0_1 a0_2 a0_3 a0_0 0 0 0 = some (r1, r2, r3, r4)) ∧ Aside0 (kq ≤ kj1) ∧ Aside0 (wc.heap[gb464]? = some (.cells #[.int .i64 a0_0, .int .i64 a0_1, .int .i64 a0_2, .int .i64 a0_3] 25 (0, 0))) ∧ Aside0 (wc.heap[gb465]? = some (.cells #[.int .i64 0, .int .i64 0, .int .i64 0, .int .i64 0] 25 (0, 0))) ∧ Aside0 (wc.heap[gb466]? = some (.cells #[.int .i64 a0_0, .int .i64 0, .int .i64 0, .int .i64 0] 25 (0, 0))) ∧ Aside0 (Below w.heap.size w wc))
    case first =>
     have H := HC22.out
     clear HC22
     by_cases c23 : a0_0 = 2
     ·
      rw [if_pos c23] at H
      have c23b0 : (a0_0 == 2) = true := beq_iff_eq.mpr c23
      have c23b1 : (a0_0 != 2) = false := bne_eq_false_iff_eq.mpr c23
      clear c23
      (first | rw [c23b0] | (simp only [i64_w, i32_w]; rw [c23b0]) | skip)
      have H' := asd H
      clear H
      go_wp2
      go_meet
      case rel => exact ⟨_, ((a0_0 == 2)), rs, H', ⟨by have := HJ1.out; first | omega | exact Nat.le_refl _⟩, ⟨skK BK464.out⟩, ⟨skK BK465.out⟩, ⟨skK BK466.out⟩, ⟨by repeat (first | (with_reducible first | exact HB.out | apply below_alloc | apply pw_below_drewN | apply below_drew1 | refine below_set ?_ GE464.out | refine below_set ?_ GE465.out | refine below_set ?_ GE466.out) | exact HB.out)⟩⟩
     ·
      rw [if_neg c23] at H
      have c23b0 : (a0_0 == 2) = false := beq_eq_false_iff_ne.mpr c23
      have c23b1 : (a0_0 != 2) = true := bne_iff_ne.mpr c23
      (first | rw [c23b0] | (simp only [i64_w, i32_w]; rw [c23b0]) | skip)
      have H' := asd H
      clear H
      go_wp2
      go_meet
      case rel => exact ⟨_, ((a0_0 == 3)), rs, H', ⟨by have := HJ1.out; first | omega | exact Nat.le_refl _⟩, ⟨skK BK464.out⟩, ⟨skK BK465.out⟩, ⟨skK BK466.out⟩, ⟨by repeat (first | (with_reducible first | exact HB.out | apply below_alloc | apply pw_below_drewN | apply below_drew1 | refine below_set ?_ GE464.out | refine below_set ?_ GE465.out | refine below_set ?_ GE466.out) | exact HB.out)⟩⟩
    case rest =>
     clear HC22
     try clear c1
     try clear c2
     try clear p2
     try clear c3
     try clear c5
     try clear c8
     try clear c9
     try clear c12
     try clear c12b0
     try clear c12b1
     try clear c13
     try clear c13b0
     try clear c13b1
     try clear c14
     try clear c14b0
     try clear c14b1
     try clear c15
     try clear c16
     try clear c17
     try clear c19
     try clear c23
     try clear c23b0
     try clear c23b1
     try clear hcz10_0
     try clear hcz10_1
     try clear hcz10_2
     try clear hcz10_3
     try clear hcz11_0
     try clear hcz11_1
     try clear hcz11_2
     try clear hcz11_3
     try clear hcz18_0
     try clear hcz18_1
     try clear hcz18_2
     try clear hcz18_3
     try clear hcz20_0
     try clear hcz20_1
     try clear hcz20_2
     try clear hcz20_3
     try clear hcz21_0
     try clear hcz21_1
     try clear hcz21_2
     try clear hcz21_3
     try clear hcz6_0
     try clear hcz6_1
     try clear hcz6_2
     try clear hcz6_3
     try clear hfz10_0
     try clear hfz10_1
     try clear hfz10_2
     try clear hfz10_3
     try clear hfz11_0
     try clear hfz11_1
     try clear hfz11_2
     try clear hfz11_3
     try clear hfz18_0
     try clear hfz18_1
     try clear hfz18_2
     try clear hfz18_3
     try clear hfz20_0
     try clear hfz20_1
     try clear hfz20_2
     try clear hfz20_3
     try clear hfz21_0
     try clear hfz21_1
     try clear hfz21_2
     try clear hfz21_3
     try clear hfz6_0
     try clear hfz6_1
     try clear hfz6_2
     try clear hfz6_3
     try clear p2
     obtain ⟨kq, x17_21, rfl, HA, HJ21, BK464, BK465, BK466, HB⟩ := hcut
     cases kq with
     | zero => exact absurd HA.out (by simp [model_Plain.j1])
     | succ kj21 =>
      have H := HA.out
      clear HA
      simp only [model_Plain.j1] at H
      by_cases c24 : x17_21 = true
      ·
       subst c24
       have H1 : (some (a0_0, a0_1, a0_2, 0)) = some (r1, r2, r3, r4) := by rw [if_pos rfl] at H; exact H
       clear H
       have H := H1
       clear H1
       simp only [Option.some.injEq, Prod.mk.injEq] at H
       obtain ⟨rfl, rfl, rfl, rfl⟩ := H
       try go_wp2
       have n0_ := asd (blk_drew BK464.out)
       have n1_ := asd (blk_drew BK465.out)
       have n2_ := asd (blk_drew BK466.out)
       have n3_ := asd (below_drew1 HB.out)
       clear BK464
       clear BK465
       clear BK466
       clear HB
       have BK464 := n0_
       have BK465 := n1_
       have BK466 := n2_
       have HB := n3_
       clear n0_ n1_ n2_ n3_
       refine start_ (n := 8) (S := fun w' => w'.cell? ⟨gb464, 0, none⟩ = some (.int .i64 a0_0) ∧ w'.cell? ⟨gb464, 1, none⟩ = some (.int .i64 a0_1) ∧ w'.cell? ⟨gb464, 2, none⟩ = some (.int .i64 a0_2) ∧ w'.cell? ⟨gb464, 3, none⟩ = some (.int .i64 a0_3)) (ds := []) #[false,false,false,false,false,false,false,false] (by kernel_rfl) rfl rfl ⟨(blk_cell BK464.out 0).trans rfl, (blk_cell BK464.out 1).trans rfl, (blk_cell BK464.out 2).trans rfl, (blk_cell BK464.out 3).trans rfl⟩ (fun hHeld => ?_); refine with_tabW model_Plain.tab10 model_Plain.bits10 (fun HT_ HW_ => ?_)
       generalize wc.drew = w25 at BK464 BK465 BK466 HB hHeld ⊢
       refine pure_ (i := 0) (N := some 20) (v := ?_) (a' := ?_) #[true,false,false,false,false,false,false,false] rfl rfl (aK HT_.out) (fun _ _ _ h => h) (Or.inl ⟨by rfl, ?_⟩) ?_ ?_
       rotate_left
       ·
        intro w'
        go_simp
        with_reducible rfl
       rotate_left
       ·
        simp only [Act.put, sp]
        rfl
       refine pure_ (i := 2) (N := some 22) (v := ?_) (a' := ?_) #[true,false,true,false,false,false,false,false] rfl rfl (aK HT_.out) (fun _ _ _ h => h) (Or.inl ⟨by rfl, ?_⟩) ?_ ?_
       rotate_left
       ·
        intro w'
        go_simp
        with_reducible rfl
       rotate_left
       ·
        simp only [Act.put, sp]
        rfl
       refine take_ (i := 1) (N := some 21) (v := ?_) (a' := ?_) #[true,true,true,false,false,false,false,false] rfl rfl (take_ofW HT_.out HW_.out (by kernel_rfl)) (fun _ _ _ h => h) (Or.inl ⟨by rfl, ?_⟩) hHeld ?_ ?_
       rotate_left
       ·
        rintro w' ⟨s0, s1, s2, s3⟩
        go_simp
        with_reducible rfl
       rotate_left
       ·
        simp only [Act.put, sp]
        rfl
       refine pure_ (i := 4) (N := some 24) (v := ?_) (a' := ?_) #[true,true,true,false,true,false,false,false] rfl rfl (aK HT_.out) (fun _ _ _ h => h) (Or.inl ⟨by rfl, ?_⟩) ?_ ?_
       rotate_left
       ·
        intro w'
        go_simp
        with_reducible rfl
       rotate_left
       ·
        simp only [Act.put, sp]
        rfl
       refine take_ (i := 3) (N := some 23) (v := ?_) (a' := ?_) #[true,true,true,true,true,false,false,false] rfl rfl (take_ofW HT_.out HW_.out (by kernel_rfl)) (fun _ _ _ h => h) (Or.inl ⟨by rfl, ?_⟩) hHeld ?_ ?_
       rotate_left
       ·
        rintro w' ⟨s0, s1, s2, s3⟩
        go_simp
        with_reducible rfl
       rotate_left
       ·
        simp only [Act.put, sp]
        rfl
       refine one_ (i := 5) (N := none) #[true,true,true,true,true,true,false,false] rfl rfl (one_of HT_.out (by kernel_rfl)) (by decide) (fun K hK => ?_)
       have hs26 : w25.cell? ⟨gb466, 1, none⟩ = some (.int .i64 0) := (blk_cell BK466.out 1).trans rfl
       have hfs26 := blk_frozen BK466.out 1
       have hns26_0 := NB464_466.out
       have hns26_1 := NB465_466.out
       have hms26_0 := NB466_464.out
       have hms26_1 := NB466_465.out
       refine skip_ (w1 := ?_) (by rfl) rfl ?_ ?_
       rotate_left
       ·
        go_simp
        rfl
       refine hK.out _ _ ⟨((cell_far (p := ⟨gb466, _, none⟩) NB464_466.out _).trans (hHeld.1)), ((cell_far (p := ⟨gb466, _, none⟩) NB464_466.out _).trans (hHeld.2.1)), ((cell_far (p := ⟨gb466, _, none⟩) NB464_466.out _).trans (hHeld.2.2.1)), ((cell_far (p := ⟨gb466, _, none⟩) NB464_466.out _).trans (hHeld.2.2.2))⟩ (fun hHeld => ?_)
       clear hK K
       refine pure_ (i := 6) (N := some 25) (v := ?_) (a' := ?_) #[true,true,true,true,true,true,true,false] rfl rfl (aK HT_.out) (fun _ _ _ h => h) (Or.inl ⟨by rfl, ?_⟩) ?_ ?_
       rotate_left
       ·
        intro w'
        go_simp
        with_reducible rfl
       rotate_left
       ·
        simp only [Act.put, sp]
        rfl
       refine one_ (i := 7) (N := none) #[true,true,true,true,true,true,true,true] rfl rfl (one_of HT_.out (by kernel_rfl)) (by decide) (fun K hK => ?_)
       have hs27 : w25.cell? ⟨gb466, 2, none⟩ = some (.int .i64 0) := (blk_cell BK466.out 2).trans rfl
       have hfs27 := blk_frozen BK466.out 2
       have hns27_0 := NB464_466.out
       have hns27_1 := NB465_466.out
       have hms27_0 := NB466_464.out
       have hms27_1 := NB466_465.out
       refine skip_ (w1 := ?_) (by rfl) rfl ?_ ?_
       rotate_left
       ·
        go_simp
        rfl
       refine hK.out _ _ ⟨((cell_far (p := ⟨gb466, _, none⟩) NB464_466.out _).trans (hHeld.1)), ((cell_far (p := ⟨gb466, _, none⟩) NB464_466.out _).trans (hHeld.2.1)), ((cell_far (p := ⟨gb466, _, none⟩) NB464_466.out _).trans (hHeld.2.2.1)), ((cell_far (p := ⟨gb466, _, none⟩) NB464_466.out _).trans (hHeld.2.2.2))⟩ (fun hHeld => ?_)
       clear hK K
       refine done_ (done_of HT_.out (by kernel_rfl)) ?_
       have hnb28 := NB466_464.out
       have hnc28 := NB464_466.out
       have hnb29 := NB466_465.out
       have hnc29 := NB465_466.out
       obtain ⟨hcz30_0, hcz30_1, hcz30_2, hcz30_3, hfz30_0, hfz30_1, hfz30_2, hfz30_3⟩ := bk4 BK466.out
       have hnb31 := NB465_464.out
       have hnc31 := NB464_465.out
       obtain ⟨hcz32_0, hcz32_1, hcz32_2, hcz32_3, hfz32_0, hfz32_1, hfz32_2, hfz32_3⟩ := bk4 BK465.out
       try go_wp2
       refine bodyPost_ret (results_cell_row rfl _ _ gb465 25 #[.int .i64 a0_0, .int .i64 a0_1, .int .i64 a0_2, .int .i64 0] (0, 0) _ rfl (by refine skk ?_; refine blk_put (cs := #[.int .i64 a0_0, .int .i64 a0_1, .int .i64 a0_2, .int .i64 0]) ?_ 3 _ rfl; refine skk ?_; refine blk_put (cs := #[.int .i64 a0_0, .int .i64 a0_1, .int .i64 0, .int .i64 0]) ?_ 2 _ rfl; refine skk ?_; refine blk_put (cs := #[.int .i64 a0_0, .int .i64 0, .int .i64 0, .int .i64 0]) ?_ 1 _ rfl; refine skk ?_; refine blk_put (cs := #[.int .i64 0, .int .i64 0, .int .i64 0, .int .i64 0]) ?_ 0 _ rfl; refine skk ?_; refine blk_far ?_ NB465_466.out _; refine skk ?_; refine blk_far ?_ NB465_466.out _; refine skk ?_; exact BK465.out) Try.underlying25 rfl (by kernel_rfl)) rfl ?_
       exact ⟨re, by repeat (first | (with_reducible first | exact HB.out | apply below_alloc | apply pw_below_drewN | apply below_drew1 | refine below_set ?_ GE464.out | refine below_set ?_ GE465.out | refine below_set ?_ GE466.out) | exact HB.out)⟩
      ·
       replace c24 := Bool.eq_false_iff.mpr c24
       subst c24
       have H1 : (if a0_0 = 9 then (some (a0_0, a0_1, 0, a0_3)) else (some (a0_0, 0, 0, 0))) = some (r1, r2, r3, r4) := by rw [if_neg (show ¬ (false = true) by decide)] at H; exact H
       clear H
       have H := H1
       clear H1
       by_cases c33 : a0_0 = 9
       ·
        rw [if_pos c33] at H
        have c33b0 : (a0_0 == 9) = true := beq_iff_eq.mpr c33
        have c33b1 : (a0_0 != 9) = false := bne_eq_false_iff_eq.mpr c33
        clear c33
        simp only [Option.some.injEq, Prod.mk.injEq] at H
        obtain ⟨rfl, rfl, rfl, rfl⟩ := H
        try go_wp2
        have n0_ := asd (blk_drew BK464.out)
        have n1_ := asd (blk_drew BK465.out)
        have n2_ := asd (blk_drew BK466.out)
        have n3_ := asd (below_drew1 HB.out)
        clear BK464
        clear BK465
        clear BK466
        clear HB
        have BK464 := n0_
        have BK465 := n1_
        have BK466 := n2_
        have HB := n3_
        clear n0_ n1_ n2_ n3_
        refine start_ (n := 8) (S := fun w' => w'.cell? ⟨gb464, 0, none⟩ = some (.int .i64 a0_0) ∧ w'.cell? ⟨gb464, 1, none⟩ = some (.int .i64 a0_1) ∧ w'.cell? ⟨gb464, 2, none⟩ = some (.int .i64 a0_2) ∧ w'.cell? ⟨gb464, 3, none⟩ = some (.int .i64 a0_3)) (ds := []) #[false,false,false,false,false,false,false,false] (by kernel_rfl) rfl rfl ⟨(blk_cell BK464.out 0).trans rfl, (blk_cell BK464.out 1).trans rfl, (blk_cell BK464.out 2).trans rfl, (blk_cell BK464.out 3).trans rfl⟩ (fun hHeld => ?_); refine with_tabW model_Plain.tab12 model_Plain.bits12 (fun HT_ HW_ => ?_)
        generalize wc.drew = w34 at BK464 BK465 BK466 HB hHeld ⊢
        refine pure_ (i := 0) (N := some 28) (v := ?_) (a' := ?_) #[true,false,false,false,false,false,false,false] rfl rfl (aK HT_.out) (fun _ _ _ h => h) (Or.inl ⟨by rfl, ?_⟩) ?_ ?_
        rotate_left
        ·
         intro w'
         go_simp
         with_reducible rfl
        rotate_left
        ·
         simp only [Act.put, sp]
         rfl
        refine pure_ (i := 2) (N := some 30) (v := ?_) (a' := ?_) #[true,false,true,false,false,false,false,false] rfl rfl (aK HT_.out) (fun _ _ _ h => h) (Or.inl ⟨by rfl, ?_⟩) ?_ ?_
        rotate_left
        ·
         intro w'
         go_simp
         with_reducible rfl
        rotate_left
        ·
         simp only [Act.put, sp]
         rfl
        refine take_ (i := 1) (N := some 29) (v := ?_) (a' := ?_) #[true,true,true,false,false,false,false,false] rfl rfl (take_ofW HT_.out HW_.out (by kernel_rfl)) (fun _ _ _ h => h) (Or.inl ⟨by rfl, ?_⟩) hHeld ?_ ?_
        rotate_left
        ·
         rintro w' ⟨s0, s1, s2, s3⟩
         go_simp
         with_reducible rfl
        rotate_left
        ·
         simp only [Act.put, sp]
         rfl
        refine pure_ (i := 4) (N := some 32) (v := ?_) (a' := ?_) #[true,true,true,false,true,false,false,false] rfl rfl (aK HT_.out) (fun _ _ _ h => h) (Or.inl ⟨by rfl, ?_⟩) ?_ ?_
        rotate_left
        ·
         intro w'
         go_simp
         with_reducible rfl
        rotate_left
        ·
         simp only [Act.put, sp]
         rfl
        refine take_ (i := 3) (N := some 31) (v := ?_) (a' := ?_) #[true,true,true,true,true,false,false,false] rfl rfl (take_ofW HT_.out HW_.out (by kernel_rfl)) (fun _ _ _ h => h) (Or.inl ⟨by rfl, ?_⟩) hHeld ?_ ?_
        rotate_left
        ·
         rintro w' ⟨s0, s1, s2, s3⟩
         go_simp
         with_reducible rfl
        rotate_left
        ·
         simp only [Act.put, sp]
         rfl
        refine one_ (i := 5) (N := none) #[true,true,true,true,true,true,false,false] rfl rfl (one_of HT_.out (by kernel_rfl)) (by decide) (fun K hK => ?_)
        have hs35 : w34.cell? ⟨gb466, 1, none⟩ = some (.int .i64 0) := (blk_cell BK466.out 1).trans rfl
        have hfs35 := blk_frozen BK466.out 1
        have hns35_0 := NB464_466.out
        have hns35_1 := NB465_466.out
        have hms35_0 := NB466_464.out
        have hms35_1 := NB466_465.out
        refine skip_ (w1 := ?_) (by rfl) rfl ?_ ?_
        rotate_left
        ·
         go_simp
         rfl
        refine hK.out _ _ ⟨((cell_far (p := ⟨gb466, _, none⟩) NB464_466.out _).trans (hHeld.1)), ((cell_far (p := ⟨gb466, _, none⟩) NB464_466.out _).trans (hHeld.2.1)), ((cell_far (p := ⟨gb466, _, none⟩) NB464_466.out _).trans (hHeld.2.2.1)), ((cell_far (p := ⟨gb466, _, none⟩) NB464_466.out _).trans (hHeld.2.2.2))⟩ (fun hHeld => ?_)
        clear hK K
        refine pure_ (i := 6) (N := some 33) (v := ?_) (a' := ?_) #[true,true,true,true,true,true,true,false] rfl rfl (aK HT_.out) (fun _ _ _ h => h) (Or.inl ⟨by rfl, ?_⟩) ?_ ?_
        rotate_left
        ·
         intro w'
         go_simp
         with_reducible rfl
        rotate_left
        ·
         simp only [Act.put, sp]
         rfl
        refine one_ (i := 7) (N := none) #[true,true,true,true,true,true,true,true] rfl rfl (one_of HT_.out (by kernel_rfl)) (by decide) (fun K hK => ?_)
        have hs36 : w34.cell? ⟨gb466, 3, none⟩ = some (.int .i64 0) := (blk_cell BK466.out 3).trans rfl
        have hfs36 := blk_frozen BK466.out 3
        have hns36_0 := NB464_466.out
        have hns36_1 := NB465_466.out
        have hms36_0 := NB466_464.out
        have hms36_1 := NB466_465.out
        refine skip_ (w1 := ?_) (by rfl) rfl ?_ ?_
        rotate_left
        ·
         go_simp
         rfl
        refine hK.out _ _ ⟨((cell_far (p := ⟨gb466, _, none⟩) NB464_466.out _).trans (hHeld.1)), ((cell_far (p := ⟨gb466, _, none⟩) NB464_466.out _).trans (hHeld.2.1)), ((cell_far (p := ⟨gb466, _, none⟩) NB464_466.out _).trans (hHeld.2.2.1)), ((cell_far (p := ⟨gb466, _, none⟩) NB464_466.out _).trans (hHeld.2.2.2))⟩ (fun hHeld => ?_)
        clear hK K
        refine done_ (done_of HT_.out (by kernel_rfl)) ?_
        have hnb37 := NB466_464.out
        have hnc37 := NB464_466.out
        have hnb38 := NB466_465.out
        have hnc38 := NB465_466.out
        obtain ⟨hcz39_0, hcz39_1, hcz39_2, hcz39_3, hfz39_0, hfz39_1, hfz39_2, hfz39_3⟩ := bk4 BK466.out
        have hnb40 := NB465_464.out
        have hnc40 := NB464_465.out
        obtain ⟨hcz41_0, hcz41_1, hcz41_2, hcz41_3, hfz41_0, hfz41_1, hfz41_2, hfz41_3⟩ := bk4 BK465.out
        try go_wp2
        refine bodyPost_ret (results_cell_row rfl _ _ gb465 25 #[.int .i64 a0_0, .int .i64 a0_1, .int .i64 0, .int .i64 a0_3] (0, 0) _ rfl (by refine skk ?_; refine blk_put (cs := #[.int .i64 a0_0, .int .i64 a0_1, .int .i64 0, .int .i64 0]) ?_ 3 _ rfl; refine skk ?_; refine blk_put (cs := #[.int .i64 a0_0, .int .i64 a0_1, .int .i64 0, .int .i64 0]) ?_ 2 _ rfl; refine skk ?_; refine blk_put (cs := #[.int .i64 a0_0, .int .i64 0, .int .i64 0, .int .i64 0]) ?_ 1 _ rfl; refine skk ?_; refine blk_put (cs := #[.int .i64 0, .int .i64 0, .int .i64 0, .int .i64 0]) ?_ 0 _ rfl; refine skk ?_; refine blk_far ?_ NB465_466.out _; refine skk ?_; refine blk_far ?_ NB465_466.out _; refine skk ?_; exact BK465.out) Try.underlying25 rfl (by kernel_rfl)) rfl ?_
        exact ⟨re, by repeat (first | (with_reducible first | exact HB.out | apply below_alloc | apply pw_below_drewN | apply below_drew1 | refine below_set ?_ GE464.out | refine below_set ?_ GE465.out | refine below_set ?_ GE466.out) | exact HB.out)⟩
       ·
        rw [if_neg c33] at H
        have c33b0 : (a0_0 == 9) = false := beq_eq_false_iff_ne.mpr c33
        have c33b1 : (a0_0 != 9) = true := bne_iff_ne.mpr c33
        simp only [Option.some.injEq, Prod.mk.injEq] at H
        obtain ⟨rfl, rfl, rfl, rfl⟩ := H
        have hnb42 := NB466_464.out
        have hnc42 := NB464_466.out
        have hnb43 := NB466_465.out
        have hnc43 := NB465_466.out
        obtain ⟨hcz44_0, hcz44_1, hcz44_2, hcz44_3, hfz44_0, hfz44_1, hfz44_2, hfz44_3⟩ := bk4 BK466.out
        have hnb45 := NB465_464.out
        have hnc45 := NB464_465.out
        obtain ⟨hcz46_0, hcz46_1, hcz46_2, hcz46_3, hfz46_0, hfz46_1, hfz46_2, hfz46_3⟩ := bk4 BK465.out
        go_wp2
        refine bodyPost_ret (results_cell_row rfl _ _ gb465 25 #[.int .i64 a0_0, .int .i64 0, .int .i64 0, .int .i64 0] (0, 0) _ rfl (by refine skk ?_; refine blk_put (cs := #[.int .i64 a0_0, .int .i64 0, .int .i64 0, .int .i64 0]) ?_ 3 _ rfl; refine skk ?_; refine blk_put (cs := #[.int .i64 a0_0, .int .i64 0, .int .i64 0, .int .i64 0]) ?_ 2 _ rfl; refine skk ?_; refine blk_put (cs := #[.int .i64 a0_0, .int .i64 0, .int .i64 0, .int .i64 0]) ?_ 1 _ rfl; refine skk ?_; refine blk_put (cs := #[.int .i64 0, .int .i64 0, .int .i64 0, .int .i64 0]) ?_ 0 _ rfl; refine skk ?_; exact BK465.out) Try.underlying25 rfl (by kernel_rfl)) rfl ?_
        exact ⟨re, by repeat (first | (with_reducible first | exact HB.out | apply below_alloc | apply pw_below_drewN | apply below_drew1 | refine below_set ?_ GE464.out | refine below_set ?_ GE465.out | refine below_set ?_ GE466.out) | exact HB.out)⟩
end Go.Proofs.Ytanlnfcjdjamaaa.P
/- F57 -/
namespace Go.Proofs.Ytanlnfcjdjamaaa.P
open Go.RowKit Go.Proofs.YtanlnfcjdjamaaaW.PrintWords Go.Proofs.YtanlnfcjdjamaaaW.PrintLast Go.Proofs.YtanlnfcjdjamaaaW.PrintMore
attribute [local go_sem] max2_int min2_int max_two min_two max_three min_three max_four min_four   -- for this text's walks alone
set_option linter.unusedVariables false
set_option linter.unusedSimpArgs false
mutual
def larchref06_Plain.j0 : Nat → Bool → Int → Int → Int → Int → Int → Int → Int → Int → Option (Int × Int × Int × Int)
 | 0, _, _, _, _, _, _, _, _, _ => none
 | k + 1, x20, x468000, x468001, x468002, x468003, x470000, x470001, x470002, x470003 => if x20 = true then (larchref06_Plain.j1 k x468000 x468001 x468002 x468003 x470000 x468001 x470002 x470003) else (larchref06_Plain.j1 k x468000 x468001 x468002 x468003 x470000 x470001 x470002 x470003)
def larchref06_Plain.j1 : Nat → Int → Int → Int → Int → Int → Int → Int → Int → Option (Int × Int × Int × Int)
 | 0, _, _, _, _, _, _, _, _ => none
 | k + 1, x468000, x468001, x468002, x468003, x470000, x470001, x470002, x470003 => if x468000 = 2 then (larchref06_Plain.j2 k true x468000 x468001 x468002 x468003 x470000 x470001 x470002 x470003) else (larchref06_Plain.j2 k (x468000 == 3) x468000 x468001 x468002 x468003 x470000 x470001 x470002 x470003)
def larchref06_Plain.j2 : Nat → Bool → Int → Int → Int → Int → Int → Int → Int → Int → Option (Int × Int × Int × Int)
 | 0, _, _, _, _, _, _, _, _, _ => none
 | k + 1, x31, x468000, x468001, x468002, x468003, x470000, x470001, x470002, x470003 => if x31 = true then (if x468000 = 9 then (some (x470000, x470001, x468002, x468003)) else (some (x470000, x470001, x468002, x470003))) else (if x468000 = 9 then (some (x470000, x470001, x470002, x468003)) else (some (x470000, x470001, x470002, x470003)))
end
def larchref06_Plain.f (k : Nat) (a0_0 : Int) (a0_1 : Int) (a0_2 : Int) (a0_3 : Int) : Option (Int × Int × Int × Int) := (larchref06_Kind.f a0_0).bind fun t470 => (if t470 = 0 then (if a0_0 = 7 then (larchref06_Plain.j0 k false a0_0 a0_1 a0_2 a0_3 a0_0 0 0 0) else (larchref06_Plain.j0 k (a0_0 != 8) a0_0 a0_1 a0_2 a0_3 a0_0 0 0 0)) else (larchref06_Plain.j0 k false a0_0 a0_1 a0_2 a0_3 a0_0 0 0 0))
theorem larchref06_Plain.mono_l : ∀ k, (∀ y0 y1 y2 y3 y4 y5 y6 y7 y8, LeO (larchref06_Plain.j0 k y0 y1 y2 y3 y4 y5 y6 y7 y8) (larchref06_Plain.j0 (k + 1) y0 y1 y2 y3 y4 y5 y6 y7 y8)) ∧ (∀ y0 y1 y2 y3 y4 y5 y6 y7, LeO (larchref06_Plain.j1 k y0 y1 y2 y3 y4 y5 y6 y7) (larchref06_Plain.j1 (k + 1) y0 y1 y2 y3 y4 y5 y6 y7)) ∧ (∀ y0 y1 y2 y3 y4 y5 y6 y7 y8, LeO (larchref06_Plain.j2 k y0 y1 y2 y3 y4 y5 y6 y7 y8) (larchref06_Plain.j2 (k + 1) y0 y1 y2 y3 y4 y5 y6 y7 y8))
 | 0 => ⟨fun _ _ _ _ _ _ _ _ _ r h => by simp [larchref06_Plain.j0] at h, fun _ _ _ _ _ _ _ _ r h => by simp [larchref06_Plain.j1] at h, fun _ _ _ _ _ _ _ _ _ r h => by simp [larchref06_Plain.j2] at h⟩
 | k + 1 => by
  obtain ⟨ih0, ih1, ih2⟩ := larchref06_Plain.mono_l k
  refine ⟨?_, ?_, ?_⟩
  ·
   intro y0 y1 y2 y3 y4 y5 y6 y7 y8
   unfold larchref06_Plain.j0
   repeat' first
   | (with_reducible exact ih0 _ _ _ _ _ _ _ _ _)
   | (with_reducible exact ih1 _ _ _ _ _ _ _ _)
   | (with_reducible exact ih2 _ _ _ _ _ _ _ _ _)
   | (with_reducible exact LeO.refl _)
   | (with_reducible exact LeO.none _)
   | (with_reducible refine LeO.ite ?_ ?_)
   | (with_reducible refine LeO.bind ?_ (fun _ => ?_))
   | exact ih0 _ _ _ _ _ _ _ _ _
   | exact ih1 _ _ _ _ _ _ _ _
   | exact ih2 _ _ _ _ _ _ _ _ _
   | exact LeO.none _
   | refine LeO.ite ?_ ?_
   | refine LeO.bind ?_ (fun _ => ?_)
  ·
   intro y0 y1 y2 y3 y4 y5 y6 y7
   unfold larchref06_Plain.j1
   repeat' first
   | (with_reducible exact ih0 _ _ _ _ _ _ _ _ _)
   | (with_reducible exact ih1 _ _ _ _ _ _ _ _)
   | (with_reducible exact ih2 _ _ _ _ _ _ _ _ _)
   | (with_reducible exact LeO.refl _)
   | (with_reducible exact LeO.none _)
   | (with_reducible refine LeO.ite ?_ ?_)
   | (with_reducible refine LeO.bind ?_ (fun _ => ?_))
   | exact ih0 _ _ _ _ _ _ _ _ _
   | exact ih1 _ _ _ _ _ _ _ _
   | exact ih2 _ _ _ _ _ _ _ _ _
   | exact LeO.none _
   | refine LeO.ite ?_ ?_
   | refine LeO.bind ?_ (fun _ => ?_)
  ·
   intro y0 y1 y2 y3 y4 y5 y6 y7 y8
   unfold larchref06_Plain.j2
   repeat' first
   | (with_reducible exact ih0 _ _ _ _ _ _ _ _ _)
   | (with_reducible exact ih1 _ _ _ _ _ _ _ _)
   | (with_reducible exact ih2 _ _ _ _ _ _ _ _ _)
   | (with_reducible exact LeO.refl _)
   | (with_reducible exact LeO.none _)
   | (with_reducible refine LeO.ite ?_ ?_)
   | (with_reducible refine LeO.bind ?_ (fun _ => ?_))
   | exact ih0 _ _ _ _ _ _ _ _ _
   | exact ih1 _ _ _ _ _ _ _ _
   | exact ih2 _ _ _ _ _ _ _ _ _
   | exact LeO.none _
   | refine LeO.ite ?_ ?_
   | refine LeO.bind ?_ (fun _ => ?_)
theorem larchref06_Plain.mono : ∀ a0 a1 a2 a3 k, LeO (larchref06_Plain.f k a0 a1 a2 a3) (larchref06_Plain.f (k + 1) a0 a1 a2 a3) := by
 intro a0 a1 a2 a3 k
 obtain ⟨ih0, ih1, ih2⟩ := larchref06_Plain.mono_l k
 unfold larchref06_Plain.f
 repeat' first
   | (with_reducible exact ih0 _ _ _ _ _ _ _ _ _)
   | (with_reducible exact ih1 _ _ _ _ _ _ _ _)
   | (with_reducible exact ih2 _ _ _ _ _ _ _ _ _)
   | (with_reducible exact LeO.refl _)
   | (with_reducible exact LeO.none _)
   | (with_reducible refine LeO.ite ?_ ?_)
   | (with_reducible refine LeO.bind ?_ (fun _ => ?_))
   | exact ih0 _ _ _ _ _ _ _ _ _
   | exact ih1 _ _ _ _ _ _ _ _
   | exact ih2 _ _ _ _ _ _ _ _ _
   | exact LeO.none _
   | refine LeO.ite ?_ ?_
   | refine LeO.bind ?_ (fun _ => ?_)
set_option maxHeartbeats 8000000 in
set_option maxRecDepth 100000 in
theorem larchref06_Plain.calls (k : Nat) (a0_0 : Int) (a0_1 : Int) (a0_2 : Int) (a0_3 : Int) (r1 : Int) (r2 : Int) (r3 : Int) (r4 : Int) (w : World) (h : larchref06_Plain.f k a0_0 a0_1 a0_2 a0_3 = some (r1, r2, r3, r4)) :
  Calls Try.prog 33 #[.agg #[.int .i64 a0_0, .int .i64 a0_1, .int .i64 a0_2, .int .i64 a0_3]] w fun e w' => e = .returned (.agg #[.int .i64 r1, .int .i64 r2, .int .i64 r3, .int .i64 r4]) ∧ Below w.heap.size w w' := by
 have hu25 := Try.underlying25
 have HB := asd (Below.refl w.heap.size w)
 have H : ((larchref06_Kind.f a0_0).bind fun t470 => (if t470 = 0 then (if a0_0 = 7 then (larchref06_Plain.j0 k false a0_0 a0_1 a0_2 a0_3 a0_0 0 0 0) else (larchref06_Plain.j0 k (a0_0 != 8) a0_0 a0_1 a0_2 a0_3 a0_0 0 0 0)) else (larchref06_Plain.j0 k false a0_0 a0_1 a0_2 a0_3 a0_0 0 0 0))) = some (r1, r2, r3, r4) := h
 clear h
 have HC2 := asd H
 clear H
 go_enter Try.func33, Try.ntmps33
 go_upto_region 2 with (first | ((with_reducible refine gate_dst (N := 1) rfl ?_); refine box_event ?hg (N := 1) ?hd (cs := #[.int .i64 a0_0, .int .i64 a0_1, .int .i64 a0_2, .int .i64 a0_3]) (t := 25) ?hr ?_; (case hd => rfl); (case hg => rfl); (case hr => first | (go_simp; done) | (go_simp; rfl)); intro gb467 hg w3 hbox hb; have n0_ := asd (below_step (skB HB.out) hb); have n1_ := asd (hbox); have n2_ := asd ((by rw [hg]; exact (below_size (skB HB.out)) : w.heap.size ≤ gb467)); have n3_ := asd ((by rw [hg]; exact (below_size (skB HB.out)) : w.heap.size ≤ gb467)); clear HB; have HB := n0_; have BK467 := n1_; have GW467 := n2_; have GE467 := n3_; clear n0_ n1_ n2_ n3_; clear hb hbox hg) | ((with_reducible refine gate_dst (N := 2) rfl ?_); refine box_event ?hg (N := 2) ?hd (cs := #[.int .i64 0, .int .i64 0, .int .i64 0, .int .i64 0]) (t := 25) ?hr ?_; (case hd => rfl); (case hg => rfl); (case hr => first | (go_simp; done) | (go_simp; rfl)); intro gb468 hg w4 hbox hb; have n0_ := asd (blk_below (g := gb467) (o := .cells #[.int .i64 a0_0, .int .i64 a0_1, .int .i64 a0_2, .int .i64 a0_3] 25 (0, 0)) (skK BK467.out) hb); have n1_ := asd (below_step (skG HB.out GE467.out GE467.out) hb); have n2_ := asd (hbox); have n3_ := asd ((by rw [hg]; exact (below_size (skG HB.out GE467.out GE467.out)) : w.heap.size ≤ gb468)); have n4_ := asd ((by rw [hg]; exact (below_size (skG HB.out GE467.out GE467.out)) : w.heap.size ≤ gb468)); have n5_ := asd ((by rw [hg]; exact Nat.ne_of_lt (blk_lt (g := gb467) (o := .cells #[.int .i64 a0_0, .int .i64 a0_1, .int .i64 a0_2, .int .i64 a0_3] 25 (0, 0)) (skK BK467.out)) : gb467 ≠ gb468)); have n6_ := asd ((by rw [hg]; exact Nat.ne_of_gt (blk_lt (g := gb467) (o := .cells #[.int .i64 a0_0, .int .i64 a0_1, .int .i64 a0_2, .int .i64 a0_3] 25 (0, 0)) (skK BK467.out)) : gb468 ≠ gb467)); clear BK467; clear HB; have BK467 := n0_; have HB := n1_; have BK468 := n2_; have GW468 := n3_; have GE468 := n4_; have NB467_468 := n5_; have NB468_467 := n6_; clear n0_ n1_ n2_ n3_ n4_ n5_ n6_; clear hb hbox hg; have hnb5 := NB467_468.out; have hnc5 := NB468_467.out; obtain ⟨hcz6_0, hcz6_1, hcz6_2, hcz6_3, hfz6_0, hfz6_1, hfz6_2, hfz6_3⟩ := bk4 BK467.out) | ((with_reducible refine gate_dst (N := 3) rfl ?_); refine box_event ?hg (N := 3) ?hd (cs := #[.int .i64 0, .int .i64 0, .int .i64 0, .int .i64 0]) (t := 25) ?hr ?_; (case hd => rfl); (case hg => rfl); (case hr => first | (go_simp; done) | (go_simp; rfl)); intro gb469 hg w7 hbox hb; have n0_ := asd (blk_below (g := gb467) (o := .cells #[.int .i64 a0_0, .int .i64 a0_1, .int .i64 a0_2, .int .i64 a0_3] 25 (0, 0)) (skK BK467.out) hb); have n1_ := asd (blk_below (g := gb468) (o := .cells #[.int .i64 0, .int .i64 0, .int .i64 0, .int .i64 0] 25 (0, 0)) (skK BK468.out) hb); have n2_ := asd (below_step (skG HB.out GE467.out GE468.out) hb); have n3_ := asd (hbox); have n4_ := asd ((by rw [hg]; exact (below_size (skG HB.out GE467.out GE468.out)) : w.heap.size ≤ gb469)); have n5_ := asd ((by rw [hg]; exact (below_size (skG HB.out GE467.out GE468.out)) : w.heap.size ≤ gb469)); have n6_ := asd ((by rw [hg]; exact Nat.ne_of_lt (blk_lt (g := gb467) (o := .cells #[.int .i64 a0_0, .int .i64 a0_1, .int .i64 a0_2, .int .i64 a0_3] 25 (0, 0)) (skK BK467.out)) : gb467 ≠ gb469)); have n7_ := asd ((by rw [hg]; exact Nat.ne_of_gt (blk_lt (g := gb467) (o := .cells #[.int .i64 a0_0, .int .i64 a0_1, .int .i64 a0_2, .int .i64 a0_3] 25 (0, 0)) (skK BK467.out)) : gb469 ≠ gb467)); have n8_ := asd ((by rw [hg]; exact Nat.ne_of_lt (blk_lt (g := gb468) (o := .cells #[.int .i64 0, .int .i64 0, .int .i64 0, .int .i64 0] 25 (0, 0)) (skK BK468.out)) : gb468 ≠ gb469)); have n9_ := asd ((by rw [hg]; exact Nat.ne_of_gt (blk_lt (g := gb468) (o := .cells #[.int .i64 0, .int .i64 0, .int .i64 0, .int .i64 0] 25 (0, 0)) (skK BK468.out)) : gb469 ≠ gb468)); clear BK467; clear BK468; clear HB; have BK467 := n0_; have BK468 := n1_; have HB := n2_; have BK469 := n3_; have GW469 := n4_; have GE469 := n5_; have NB467_469 := n6_; have NB469_467 := n7_; have NB468_469 := n8_; have NB469_468 := n9_; clear n0_ n1_ n2_ n3_ n4_ n5_ n6_ n7_ n8_ n9_; clear hb hbox hg; have hnb8 := NB469_467.out; have hnc8 := NB467_469.out; have hnb9 := NB469_468.out; have hnc9 := NB468_469.out; obtain ⟨hcz10_0, hcz10_1, hcz10_2, hcz10_3, hfz10_0, hfz10_1, hfz10_2, hfz10_3⟩ := bk4 BK469.out))
 (try simp only [Act.put, List.setIfInBounds_toArray, List.set_cons_zero, List.set_cons_succ])
 go_cut [20] (fun v20 wc => ∃ (kq : Nat) (x20_1 : Bool), v20 = .bool x20_1 ∧ Aside0 (larchref06_Plain.j0 kq x20_1 a0_0 a0_1 a0_2 a0_3 a0_0 0 0 0 = some (r1, r2, r3, r4)) ∧ Aside0 (kq ≤ k) ∧ Aside0 (wc.heap[gb467]? = some (.cells #[.int .i64 a0_0, .int .i64 a0_1, .int .i64 a0_2, .int .i64 a0_3] 25 (0, 0))) ∧ Aside0 (wc.heap[gb468]? = some (.cells #[.int .i64 0, .int .i64 0, .int .i64 0, .int .i64 0] 25 (0, 0))) ∧ Aside0 (wc.heap[gb469]? = some (.cells #[.int .i64 a0_0, .int .i64 0, .int .i64 0, .int .i64 0] 25 (0, 0))) ∧ Aside0 (Below w.heap.size w wc))
 case first =>
  have H := HC2.out
  clear HC2
  replace H := Option.bind_eq_some_iff.mp H
  obtain ⟨t470, A110, H⟩ := H
  replace H : (if t470 = 0 then (if a0_0 = 7 then (larchref06_Plain.j0 k false a0_0 a0_1 a0_2 a0_3 a0_0 0 0 0) else (larchref06_Plain.j0 k (a0_0 != 8) a0_0 a0_1 a0_2 a0_3 a0_0 0 0 0)) else (larchref06_Plain.j0 k false a0_0 a0_1 a0_2 a0_3 a0_0 0 0 0)) = some (r1, r2, r3, r4) := H
  have A11 := asd A110
  clear A110
  by_cases c12 : t470 = 0
  ·
   rw [if_pos c12] at H
   have c12b0 : (t470 == 0) = true := beq_iff_eq.mpr c12
   have c12b1 : (t470 != 0) = false := bne_eq_false_iff_eq.mpr c12
   clear c12
   (first | rw [c12b0] | (simp only [i64_w, i32_w]; rw [c12b0]) | skip)
   by_cases c13 : a0_0 = 7
   ·
    rw [if_pos c13] at H
    have c13b0 : (a0_0 == 7) = true := beq_iff_eq.mpr c13
    have c13b1 : (a0_0 != 7) = false := bne_eq_false_iff_eq.mpr c13
    clear c13
    have H' := asd H
    clear H
    have hnb14 := NB467_468.out
    have hnc14 := NB468_467.out
    have hnb15 := NB467_469.out
    have hnc15 := NB469_467.out
    obtain ⟨hcz16_0, hcz16_1, hcz16_2, hcz16_3, hfz16_0, hfz16_1, hfz16_2, hfz16_3⟩ := bk4 BK467.out
    go_wp2_with (first | ((with_reducible refine gate_callee (f := 31) rfl ?_); refine goesL_ (some 9) rfl rfl Try.func31 (by kernel_rfl) rfl #[.int .i64 a0_0] rfl ags ?_; (with_reducible refine (larchref06_Kind.calls a0_0 t470 _ A11.out).mono ?_); rintro e w' ⟨rfl, ⟨nd, rfl⟩⟩; refine ⟨_, rfl, ?_⟩))
    go_meet
    case rel => exact ⟨_, (false), rs, H', ⟨by first | omega | exact Nat.le_refl _⟩, ⟨by refine skk ?_; refine blk_far ?_ NB467_469.out _; refine skk ?_; refine blk_far ?_ NB467_469.out _; refine skk ?_; refine blk_far ?_ NB467_469.out _; refine skk ?_; refine blk_far ?_ NB467_469.out _; refine skk ?_; exact BK467.out⟩, ⟨by refine skk ?_; refine blk_far ?_ NB468_469.out _; refine skk ?_; refine blk_far ?_ NB468_469.out _; refine skk ?_; refine blk_far ?_ NB468_469.out _; refine skk ?_; refine blk_far ?_ NB468_469.out _; refine skk ?_; exact BK468.out⟩, ⟨by refine skk ?_; refine blk_put (cs := #[.int .i64 a0_0, .int .i64 0, .int .i64 0, .int .i64 0]) ?_ 3 _ rfl; refine skk ?_; refine blk_put (cs := #[.int .i64 a0_0, .int .i64 0, .int .i64 0, .int .i64 0]) ?_ 2 _ rfl; refine skk ?_; refine blk_put (cs := #[.int .i64 a0_0, .int .i64 0, .int .i64 0, .int .i64 0]) ?_ 1 _ rfl; refine skk ?_; refine blk_put (cs := #[.int .i64 0, .int .i64 0, .int .i64 0, .int .i64 0]) ?_ 0 _ rfl; refine skk ?_; exact BK469.out⟩, ⟨by repeat (first | (with_reducible first | exact HB.out | apply below_alloc | apply pw_below_drewN | apply below_drew1 | refine below_set ?_ GE467.out | refine below_set ?_ GE468.out | refine below_set ?_ GE469.out) | exact HB.out)⟩⟩
   ·
    rw [if_neg c13] at H
    have c13b0 : (a0_0 == 7) = false := beq_eq_false_iff_ne.mpr c13
    have c13b1 : (a0_0 != 7) = true := bne_iff_ne.mpr c13
    have H' := asd H
    clear H
    have hnb17 := NB467_468.out
    have hnc17 := NB468_467.out
    have hnb18 := NB467_469.out
    have hnc18 := NB469_467.out
    obtain ⟨hcz19_0, hcz19_1, hcz19_2, hcz19_3, hfz19_0, hfz19_1, hfz19_2, hfz19_3⟩ := bk4 BK467.out
    go_wp2_with (first | ((with_reducible refine gate_callee (f := 31) rfl ?_); refine goesL_ (some 9) rfl rfl Try.func31 (by kernel_rfl) rfl #[.int .i64 a0_0] rfl ags ?_; (with_reducible refine (larchref06_Kind.calls a0_0 t470 _ A11.out).mono ?_); rintro e w' ⟨rfl, ⟨nd, rfl⟩⟩; refine ⟨_, rfl, ?_⟩))
    go_meet
    case rel => exact ⟨_, ((a0_0 != 8)), rs, H', ⟨by first | omega | exact Nat.le_refl _⟩, ⟨by refine skk ?_; refine blk_far ?_ NB467_469.out _; refine skk ?_; refine blk_far ?_ NB467_469.out _; refine skk ?_; refine blk_far ?_ NB467_469.out _; refine skk ?_; refine blk_far ?_ NB467_469.out _; refine skk ?_; exact BK467.out⟩, ⟨by refine skk ?_; refine blk_far ?_ NB468_469.out _; refine skk ?_; refine blk_far ?_ NB468_469.out _; refine skk ?_; refine blk_far ?_ NB468_469.out _; refine skk ?_; refine blk_far ?_ NB468_469.out _; refine skk ?_; exact BK468.out⟩, ⟨by refine skk ?_; refine blk_put (cs := #[.int .i64 a0_0, .int .i64 0, .int .i64 0, .int .i64 0]) ?_ 3 _ rfl; refine skk ?_; refine blk_put (cs := #[.int .i64 a0_0, .int .i64 0, .int .i64 0, .int .i64 0]) ?_ 2 _ rfl; refine skk ?_; refine blk_put (cs := #[.int .i64 a0_0, .int .i64 0, .int .i64 0, .int .i64 0]) ?_ 1 _ rfl; refine skk ?_; refine blk_put (cs := #[.int .i64 0, .int .i64 0, .int .i64 0, .int .i64 0]) ?_ 0 _ rfl; refine skk ?_; exact BK469.out⟩, ⟨by repeat (first | (with_reducible first | exact HB.out | apply below_alloc | apply pw_below_drewN | apply below_drew1 | refine below_set ?_ GE467.out | refine below_set ?_ GE468.out | refine below_set ?_ GE469.out) | exact HB.out)⟩⟩
  ·
   rw [if_neg c12] at H
   have c12b0 : (t470 == 0) = false := beq_eq_false_iff_ne.mpr c12
   have c12b1 : (t470 != 0) = true := bne_iff_ne.mpr c12
   (first | rw [c12b0] | (simp only [i64_w, i32_w]; rw [c12b0]) | skip)
   have H' := asd H
   clear H
   have hnb20 := NB467_468.out
   have hnc20 := NB468_467.out
   have hnb21 := NB467_469.out
   have hnc21 := NB469_467.out
   obtain ⟨hcz22_0, hcz22_1, hcz22_2, hcz22_3, hfz22_0, hfz22_1, hfz22_2, hfz22_3⟩ := bk4 BK467.out
   go_wp2_with (first | ((with_reducible refine gate_callee (f := 31) rfl ?_); refine goesL_ (some 9) rfl rfl Try.func31 (by kernel_rfl) rfl #[.int .i64 a0_0] rfl ags ?_; (with_reducible refine (larchref06_Kind.calls a0_0 t470 _ A11.out).mono ?_); rintro e w' ⟨rfl, ⟨nd, rfl⟩⟩; refine ⟨_, rfl, ?_⟩))
   go_meet
   case rel => exact ⟨_, (false), rs, H', ⟨by first | omega | exact Nat.le_refl _⟩, ⟨by refine skk ?_; refine blk_far ?_ NB467_469.out _; refine skk ?_; refine blk_far ?_ NB467_469.out _; refine skk ?_; refine blk_far ?_ NB467_469.out _; refine skk ?_; refine blk_far ?_ NB467_469.out _; refine skk ?_; exact BK467.out⟩, ⟨by refine skk ?_; refine blk_far ?_ NB468_469.out _; refine skk ?_; refine blk_far ?_ NB468_469.out _; refine skk ?_; refine blk_far ?_ NB468_469.out _; refine skk ?_; refine blk_far ?_ NB468_469.out _; refine skk ?_; exact BK468.out⟩, ⟨by refine skk ?_; refine blk_put (cs := #[.int .i64 a0_0, .int .i64 0, .int .i64 0, .int .i64 0]) ?_ 3 _ rfl; refine skk ?_; refine blk_put (cs := #[.int .i64 a0_0, .int .i64 0, .int .i64 0, .int .i64 0]) ?_ 2 _ rfl; refine skk ?_; refine blk_put (cs := #[.int .i64 a0_0, .int .i64 0, .int .i64 0, .int .i64 0]) ?_ 1 _ rfl; refine skk ?_; refine blk_put (cs := #[.int .i64 0, .int .i64 0, .int .i64 0, .int .i64 0]) ?_ 0 _ rfl; refine skk ?_; exact BK469.out⟩, ⟨by repeat (first | (with_reducible first | exact HB.out | apply below_alloc | apply pw_below_drewN | apply below_drew1 | refine below_set ?_ GE467.out | refine below_set ?_ GE468.out | refine below_set ?_ GE469.out) | exact HB.out)⟩⟩
 case rest =>
  clear HC2
  try clear c1
  try clear c2
  try clear p2
  try clear c3
  try clear c5
  try clear c8
  try clear c9
  try clear c12
  try clear c12b0
  try clear c12b1
  try clear c13
  try clear c13b0
  try clear c13b1
  try clear c14
  try clear c15
  try clear c17
  try clear c18
  try clear c20
  try clear c21
  try clear hcz10_0
  try clear hcz10_1
  try clear hcz10_2
  try clear hcz10_3
  try clear hcz16_0
  try clear hcz16_1
  try clear hcz16_2
  try clear hcz16_3
  try clear hcz19_0
  try clear hcz19_1
  try clear hcz19_2
  try clear hcz19_3
  try clear hcz22_0
  try clear hcz22_1
  try clear hcz22_2
  try clear hcz22_3
  try clear hcz6_0
  try clear hcz6_1
  try clear hcz6_2
  try clear hcz6_3
  try clear hfz10_0
  try clear hfz10_1
  try clear hfz10_2
  try clear hfz10_3
  try clear hfz16_0
  try clear hfz16_1
  try clear hfz16_2
  try clear hfz16_3
  try clear hfz19_0
  try clear hfz19_1
  try clear hfz19_2
  try clear hfz19_3
  try clear hfz22_0
  try clear hfz22_1
  try clear hfz22_2
  try clear hfz22_3
  try clear hfz6_0
  try clear hfz6_1
  try clear hfz6_2
  try clear hfz6_3
  obtain ⟨kq, x20_1, rfl, HA, HJ1, BK467, BK468, BK469, HB⟩ := hcut
  cases kq with
  | zero => exact absurd HA.out (by simp [larchref06_Plain.j0])
  | succ kj1 =>
   have H := HA.out
   clear HA
   simp only [larchref06_Plain.j0] at H
   have HC23 := asd H
   clear H
   go_upto_if 20 with (fail)
   go_cut [] (fun wc => ∃ (kq : Nat) (x470001_22 : Int), Aside0 (larchref06_Plain.j1 kq a0_0 a0_1 a0_2 a0_3 a0_0 x470001_22 0 0 = some (r1, r2, r3, r4)) ∧ Aside0 (kq ≤ kj1) ∧ Aside0 (wc.heap[gb467]? = some (.cells #[.int .i64 a0_0, .int .i64 a0_1, .int .i64 a0_2, .int .i64 a0_3] 25 (0, 0))) ∧ Aside0 (wc.heap[gb468]? = some (.cells #[.int .i64 0, .int .i64 0, .int .i64 0, .int .i64 0] 25 (0, 0))) ∧ Aside0 (wc.heap[gb469]? = some (.cells #[.int .i64 a0_0, .int .i64 x470001_22, .int .i64 0, .int .i64 0] 25 (0, 0))) ∧ Aside0 (Below w.heap.size w wc))
   case first =>
    have H := HC23.out
    clear HC23
    by_cases c24 : x20_1 = true
    ·
     subst c24
     have H1 : (larchref06_Plain.j1 kj1 a0_0 a0_1 a0_2 a0_3 a0_0 a0_1 0 0) = some (r1, r2, r3, r4) := by rw [if_pos rfl] at H; exact H
     clear H
     have H := H1
     clear H1
     have H' := asd H
     clear H
     have hnb25 := NB467_468.out
     have hnc25 := NB468_467.out
     have hnb26 := NB467_469.out
     have hnc26 := NB469_467.out
     obtain ⟨hcz27_0, hcz27_1, hcz27_2, hcz27_3, hfz27_0, hfz27_1, hfz27_2, hfz27_3⟩ := bk4 BK467.out
     have hnb28 := NB469_468.out
     have hnc28 := NB468_469.out
     obtain ⟨hcz29_0, hcz29_1, hcz29_2, hcz29_3, hfz29_0, hfz29_1, hfz29_2, hfz29_3⟩ := bk4 BK469.out
     go_wp2
     go_meet
     case rel => exact ⟨_, (a0_1), H', ⟨by have := HJ1.out; first | omega | exact Nat.le_refl _⟩, ⟨by refine skk ?_; refine blk_far ?_ NB467_469.out _; refine skk ?_; exact BK467.out⟩, ⟨by refine skk ?_; refine blk_far ?_ NB468_469.out _; refine skk ?_; exact BK468.out⟩, ⟨by refine skk ?_; refine blk_put (cs := #[.int .i64 a0_0, .int .i64 0, .int .i64 0, .int .i64 0]) ?_ 1 _ rfl; refine skk ?_; exact BK469.out⟩, ⟨by repeat (first | (with_reducible first | exact HB.out | apply below_alloc | apply pw_below_drewN | apply below_drew1 | refine below_set ?_ GE467.out | refine below_set ?_ GE468.out | refine below_set ?_ GE469.out) | exact HB.out)⟩⟩
    ·
     replace c24 := Bool.eq_false_iff.mpr c24
     subst c24
     have H1 : (larchref06_Plain.j1 kj1 a0_0 a0_1 a0_2 a0_3 a0_0 0 0 0) = some (r1, r2, r3, r4) := by rw [if_neg (show ¬ (false = true) by decide)] at H; exact H
     clear H
     have H := H1
     clear H1
     have H' := asd H
     clear H
     go_wp2
     go_meet
     case rel => exact ⟨_, (0), H', ⟨by have := HJ1.out; first | omega | exact Nat.le_refl _⟩, ⟨skK BK467.out⟩, ⟨skK BK468.out⟩, ⟨skK BK469.out⟩, ⟨by repeat (first | (with_reducible first | exact HB.out | apply below_alloc | apply pw_below_drewN | apply below_drew1 | refine below_set ?_ GE467.out | refine below_set ?_ GE468.out | refine below_set ?_ GE469.out) | exact HB.out)⟩⟩
   case rest =>
    clear HC23
    try clear c1
    try clear c2
    try clear p2
    try clear c3
    try clear c5
    try clear c8
    try clear c9
    try clear c12
    try clear c12b0
    try clear c12b1
    try clear c13
    try clear c13b0
    try clear c13b1
    try clear c14
    try clear c15
    try clear c17
    try clear c18
    try clear c20
    try clear c21
    try clear c24
    try clear c25
    try clear c26
    try clear c28
    try clear hcz10_0
    try clear hcz10_1
    try clear hcz10_2
    try clear hcz10_3
    try clear hcz16_0
    try clear hcz16_1
    try clear hcz16_2
    try clear hcz16_3
    try clear hcz19_0
    try clear hcz19_1
    try clear hcz19_2
    try clear hcz19_3
    try clear hcz22_0
    try clear hcz22_1
    try clear hcz22_2
    try clear hcz22_3
    try clear hcz27_0
    try clear hcz27_1
    try clear hcz27_2
    try clear hcz27_3
    try clear hcz29_0
    try clear hcz29_1
    try clear hcz29_2
    try clear hcz29_3
    try clear hcz6_0
    try clear hcz6_1
    try clear hcz6_2
    try clear hcz6_3
    try clear hfz10_0
    try clear hfz10_1
    try clear hfz10_2
    try clear hfz10_3
    try clear hfz16_0
    try clear hfz16_1
    try clear hfz16_2
    try clear hfz16_3
    try clear hfz19_0
    try clear hfz19_1
    try clear hfz19_2
    try clear hfz19_3
    try clear hfz22_0
    try clear hfz22_1
    try clear hfz22_2
    try clear hfz22_3
    try clear hfz27_0
    try clear hfz27_1
    try clear hfz27_2
    try clear hfz27_3
    try clear hfz29_0
    try clear hfz29_1
    try clear hfz29_2
    try clear hfz29_3
    try clear hfz6_0
    try clear hfz6_1
    try clear hfz6_2
    try clear hfz6_3
    try clear p2
    obtain ⟨kq, x470001_22, HA, HJ22, BK467, BK468, BK469, HB⟩ := hcut
    cases kq with
    | zero => exact absurd HA.out (by simp [larchref06_Plain.j1])
    | succ kj22 =>
     have H := HA.out
     clear HA
     simp only [larchref06_Plain.j1] at H
     have HC30 := asd H
     clear H
     go_upto_region 4 with (fail)
     go_cut [31] (fun v31 wc => ∃ (kq : Nat) (x31_29 : Bool), v31 = .bool x31_29 ∧ Aside0 (larchref06_Plain.j2 kq x31_29 a0_0 a0_1 a0_2 a0_3 a0_0 x470001_22 0 0 = some (r1, r2, r3, r4)) ∧ Aside0 (kq ≤ kj22) ∧ Aside0 (wc.heap[gb467]? = some (.cells #[.int .i64 a0_0, .int .i64 a0_1, .int .i64 a0_2, .int .i64 a0_3] 25 (0, 0))) ∧ Aside0 (wc.heap[gb468]? = some (.cells #[.int .i64 0, .int .i64 0, .int .i64 0, .int .i64 0] 25 (0, 0))) ∧ Aside0 (wc.heap[gb469]? = some (.cells #[.int .i64 a0_0, .int .i64 x470001_22, .int .i64 0, .int .i64 0] 25 (0, 0))) ∧ Aside0 (Below w.heap.size w wc))
     case first =>
      have H := HC30.out
      clear HC30
      by_cases c31 : a0_0 = 2
      ·
       rw [if_pos c31] at H
       have c31b0 : (a0_0 == 2) = true := beq_iff_eq.mpr c31
       have c31b1 : (a0_0 != 2) = false := bne_eq_false_iff_eq.mpr c31
       clear c31
       (first | rw [c31b0] | (simp only [i64_w, i32_w]; rw [c31b0]) | skip)
       have H' := asd H
       clear H
       have hnb32 := NB467_468.out
       have hnc32 := NB468_467.out
       have hnb33 := NB467_469.out
       have hnc33 := NB469_467.out
       obtain ⟨hcz34_0, hcz34_1, hcz34_2, hcz34_3, hfz34_0, hfz34_1, hfz34_2, hfz34_3⟩ := bk4 BK467.out
       go_wp2
       go_meet
       case rel => exact ⟨_, (true), rs, H', ⟨by have := HJ1.out; have := HJ22.out; first | omega | exact Nat.le_refl _⟩, ⟨skK BK467.out⟩, ⟨skK BK468.out⟩, ⟨skK BK469.out⟩, ⟨by repeat (first | (with_reducible first | exact HB.out | apply below_alloc | apply pw_below_drewN | apply below_drew1 | refine below_set ?_ GE467.out | refine below_set ?_ GE468.out | refine below_set ?_ GE469.out) | exact HB.out)⟩⟩
      ·
       rw [if_neg c31] at H
       have c31b0 : (a0_0 == 2) = false := beq_eq_false_iff_ne.mpr c31
       have c31b1 : (a0_0 != 2) = true := bne_iff_ne.mpr c31
       (first | rw [c31b0] | (simp only [i64_w, i32_w]; rw [c31b0]) | skip)
       have H' := asd H
       clear H
       have hnb35 := NB467_468.out
       have hnc35 := NB468_467.out
       have hnb36 := NB467_469.out
       have hnc36 := NB469_467.out
       obtain ⟨hcz37_0, hcz37_1, hcz37_2, hcz37_3, hfz37_0, hfz37_1, hfz37_2, hfz37_3⟩ := bk4 BK467.out
       go_wp2
       go_meet
       case rel => exact ⟨_, ((a0_0 == 3)), rs, H', ⟨by have := HJ1.out; have := HJ22.out; first | omega | exact Nat.le_refl _⟩, ⟨skK BK467.out⟩, ⟨skK BK468.out⟩, ⟨skK BK469.out⟩, ⟨by repeat (first | (with_reducible first | exact HB.out | apply below_alloc | apply pw_below_drewN | apply below_drew1 | refine below_set ?_ GE467.out | refine below_set ?_ GE468.out | refine below_set ?_ GE469.out) | exact HB.out)⟩⟩
     case rest =>
      clear HC30
      try clear c1
      try clear c2
      try clear p2
      try clear c3
      try clear c5
      try clear c8
      try clear c9
      try clear c12
      try clear c12b0
      try clear c12b1
      try clear c13
      try clear c13b0
      try clear c13b1
      try clear c14
      try clear c15
      try clear c17
      try clear c18
      try clear c20
      try clear c21
      try clear c24
      try clear c25
      try clear c26
      try clear c28
      try clear c31
      try clear c31b0
      try clear c31b1
      try clear c32
      try clear c33
      try clear c35
      try clear c36
      try clear hcz10_0
      try clear hcz10_1
      try clear hcz10_2
      try clear hcz10_3
      try clear hcz16_0
      try clear hcz16_1
      try clear hcz16_2
      try clear hcz16_3
      try clear hcz19_0
      try clear hcz19_1
      try clear hcz19_2
      try clear hcz19_3
      try clear hcz22_0
      try clear hcz22_1
      try clear hcz22_2
      try clear hcz22_3
      try clear hcz27_0
      try clear hcz27_1
      try clear hcz27_2
      try clear hcz27_3
      try clear hcz29_0
      try clear hcz29_1
      try clear hcz29_2
      try clear hcz29_3
      try clear hcz34_0
      try clear hcz34_1
      try clear hcz34_2
      try clear hcz34_3
      try clear hcz37_0
      try clear hcz37_1
      try clear hcz37_2
      try clear hcz37_3
      try clear hcz6_0
      try clear hcz6_1
      try clear hcz6_2
      try clear hcz6_3
      try clear hfz10_0
      try clear hfz10_1
      try clear hfz10_2
      try clear hfz10_3
      try clear hfz16_0
      try clear hfz16_1
      try clear hfz16_2
      try clear hfz16_3
      try clear hfz19_0
      try clear hfz19_1
      try clear hfz19_2
      try clear hfz19_3
      try clear hfz22_0
      try clear hfz22_1
      try clear hfz22_2
      try clear hfz22_3
      try clear hfz27_0
      try clear hfz27_1
      try clear hfz27_2
      try clear hfz27_3
      try clear hfz29_0
      try clear hfz29_1
      try clear hfz29_2
      try clear hfz29_3
      try clear hfz34_0
      try clear hfz34_1
      try clear hfz34_2
      try clear hfz34_3
      try clear hfz37_0
      try clear hfz37_1
      try clear hfz37_2
      try clear hfz37_3
      try clear hfz6_0
      try clear hfz6_1
      try clear hfz6_2
      try clear hfz6_3
      try clear p2
      obtain ⟨kq, x31_29, rfl, HA, HJ29, BK467, BK468, BK469, HB⟩ := hcut
      cases kq with
      | zero => exact absurd HA.out (by simp [larchref06_Plain.j2])
      | succ kj29 =>
       have H := HA.out
       clear HA
       simp only [larchref06_Plain.j2] at H
       by_cases c38 : x31_29 = true
       ·
        subst c38
        have H1 : (if a0_0 = 9 then (some (a0_0, x470001_22, a0_2, a0_3)) else (some (a0_0, x470001_22, a0_2, 0))) = some (r1, r2, r3, r4) := by rw [if_pos rfl] at H; exact H
        clear H
        have H := H1
        clear H1
        by_cases c39 : a0_0 = 9
        ·
         rw [if_pos c39] at H
         have c39b0 : (a0_0 == 9) = true := beq_iff_eq.mpr c39
         have c39b1 : (a0_0 != 9) = false := bne_eq_false_iff_eq.mpr c39
         clear c39
         simp only [Option.some.injEq, Prod.mk.injEq] at H
         obtain ⟨rfl, rfl, rfl, rfl⟩ := H
         have hnb40 := NB467_468.out
         have hnc40 := NB468_467.out
         have hnb41 := NB467_469.out
         have hnc41 := NB469_467.out
         obtain ⟨hcz42_0, hcz42_1, hcz42_2, hcz42_3, hfz42_0, hfz42_1, hfz42_2, hfz42_3⟩ := bk4 BK467.out
         have hnb43 := NB469_468.out
         have hnc43 := NB468_469.out
         obtain ⟨hcz44_0, hcz44_1, hcz44_2, hcz44_3, hfz44_0, hfz44_1, hfz44_2, hfz44_3⟩ := bk4 BK469.out
         obtain ⟨hcz45_0, hcz45_1, hcz45_2, hcz45_3, hfz45_0, hfz45_1, hfz45_2, hfz45_3⟩ := bk4 BK468.out
         go_wp2
         refine bodyPost_ret (results_cell_row rfl _ _ gb468 25 #[.int .i64 a0_0, .int .i64 x470001_22, .int .i64 a0_2, .int .i64 a0_3] (0, 0) _ rfl (by refine skk ?_; refine blk_put (cs := #[.int .i64 a0_0, .int .i64 x470001_22, .int .i64 a0_2, .int .i64 0]) ?_ 3 _ rfl; refine skk ?_; refine blk_put (cs := #[.int .i64 a0_0, .int .i64 x470001_22, .int .i64 0, .int .i64 0]) ?_ 2 _ rfl; refine skk ?_; refine blk_put (cs := #[.int .i64 a0_0, .int .i64 0, .int .i64 0, .int .i64 0]) ?_ 1 _ rfl; refine skk ?_; refine blk_put (cs := #[.int .i64 0, .int .i64 0, .int .i64 0, .int .i64 0]) ?_ 0 _ rfl; refine skk ?_; refine blk_far ?_ NB468_469.out _; refine skk ?_; refine blk_far ?_ NB468_469.out _; refine skk ?_; exact BK468.out) Try.underlying25 rfl (by kernel_rfl)) rfl ?_
         exact ⟨re, by repeat (first | (with_reducible first | exact HB.out | apply below_alloc | apply pw_below_drewN | apply below_drew1 | refine below_set ?_ GE467.out | refine below_set ?_ GE468.out | refine below_set ?_ GE469.out) | exact HB.out)⟩
        ·
         rw [if_neg c39] at H
         have c39b0 : (a0_0 == 9) = false := beq_eq_false_iff_ne.mpr c39
         have c39b1 : (a0_0 != 9) = true := bne_iff_ne.mpr c39
         simp only [Option.some.injEq, Prod.mk.injEq] at H
         obtain ⟨rfl, rfl, rfl, rfl⟩ := H
         have hnb46 := NB467_468.out
         have hnc46 := NB468_467.out
         have hnb47 := NB467_469.out
         have hnc47 := NB469_467.out
         obtain ⟨hcz48_0, hcz48_1, hcz48_2, hcz48_3, hfz48_0, hfz48_1, hfz48_2, hfz48_3⟩ := bk4 BK467.out
         have hnb49 := NB469_468.out
         have hnc49 := NB468_469.out
         obtain ⟨hcz50_0, hcz50_1, hcz50_2, hcz50_3, hfz50_0, hfz50_1, hfz50_2, hfz50_3⟩ := bk4 BK469.out
         obtain ⟨hcz51_0, hcz51_1, hcz51_2, hcz51_3, hfz51_0, hfz51_1, hfz51_2, hfz51_3⟩ := bk4 BK468.out
         go_wp2
         refine bodyPost_ret (results_cell_row rfl _ _ gb468 25 #[.int .i64 a0_0, .int .i64 x470001_22, .int .i64 a0_2, .int .i64 0] (0, 0) _ rfl (by refine skk ?_; refine blk_put (cs := #[.int .i64 a0_0, .int .i64 x470001_22, .int .i64 a0_2, .int .i64 0]) ?_ 3 _ rfl; refine skk ?_; refine blk_put (cs := #[.int .i64 a0_0, .int .i64 x470001_22, .int .i64 0, .int .i64 0]) ?_ 2 _ rfl; refine skk ?_; refine blk_put (cs := #[.int .i64 a0_0, .int .i64 0, .int .i64 0, .int .i64 0]) ?_ 1 _ rfl; refine skk ?_; refine blk_put (cs := #[.int .i64 0, .int .i64 0, .int .i64 0, .int .i64 0]) ?_ 0 _ rfl; refine skk ?_; refine blk_far ?_ NB468_469.out _; refine skk ?_; exact BK468.out) Try.underlying25 rfl (by kernel_rfl)) rfl ?_
         exact ⟨re, by repeat (first | (with_reducible first | exact HB.out | apply below_alloc | apply pw_below_drewN | apply below_drew1 | refine below_set ?_ GE467.out | refine below_set ?_ GE468.out | refine below_set ?_ GE469.out) | exact HB.out)⟩
       ·
        replace c38 := Bool.eq_false_iff.mpr c38
        subst c38
        have H1 : (if a0_0 = 9 then (some (a0_0, x470001_22, 0, a0_3)) else (some (a0_0, x470001_22, 0, 0))) = some (r1, r2, r3, r4) := by rw [if_neg (show ¬ (false = true) by decide)] at H; exact H
        clear H
        have H := H1
        clear H1
        by_cases c52 : a0_0 = 9
        ·
         rw [if_pos c52] at H
         have c52b0 : (a0_0 == 9) = true := beq_iff_eq.mpr c52
         have c52b1 : (a0_0 != 9) = false := bne_eq_false_iff_eq.mpr c52
         clear c52
         simp only [Option.some.injEq, Prod.mk.injEq] at H
         obtain ⟨rfl, rfl, rfl, rfl⟩ := H
         have hnb53 := NB467_468.out
         have hnc53 := NB468_467.out
         have hnb54 := NB467_469.out
         have hnc54 := NB469_467.out
         obtain ⟨hcz55_0, hcz55_1, hcz55_2, hcz55_3, hfz55_0, hfz55_1, hfz55_2, hfz55_3⟩ := bk4 BK467.out
         have hnb56 := NB469_468.out
         have hnc56 := NB468_469.out
         obtain ⟨hcz57_0, hcz57_1, hcz57_2, hcz57_3, hfz57_0, hfz57_1, hfz57_2, hfz57_3⟩ := bk4 BK469.out
         obtain ⟨hcz58_0, hcz58_1, hcz58_2, hcz58_3, hfz58_0, hfz58_1, hfz58_2, hfz58_3⟩ := bk4 BK468.out
         go_wp2
         refine bodyPost_ret (results_cell_row rfl _ _ gb468 25 #[.int .i64 a0_0, .int .i64 x470001_22, .int .i64 0, .int .i64 a0_3] (0, 0) _ rfl (by refine skk ?_; refine blk_put (cs := #[.int .i64 a0_0, .int .i64 x470001_22, .int .i64 0, .int .i64 0]) ?_ 3 _ rfl; refine skk ?_; refine blk_put (cs := #[.int .i64 a0_0, .int .i64 x470001_22, .int .i64 0, .int .i64 0]) ?_ 2 _ rfl; refine skk ?_; refine blk_put (cs := #[.int .i64 a0_0, .int .i64 0, .int .i64 0, .int .i64 0]) ?_ 1 _ rfl; refine skk ?_; refine blk_put (cs := #[.int .i64 0, .int .i64 0, .int .i64 0, .int .i64 0]) ?_ 0 _ rfl; refine skk ?_; refine blk_far ?_ NB468_469.out _; refine skk ?_; exact BK468.out) Try.underlying25 rfl (by kernel_rfl)) rfl ?_
         exact ⟨re, by repeat (first | (with_reducible first | exact HB.out | apply below_alloc | apply pw_below_drewN | apply below_drew1 | refine below_set ?_ GE467.out | refine below_set ?_ GE468.out | refine below_set ?_ GE469.out) | exact HB.out)⟩
        ·
         rw [if_neg c52] at H
         have c52b0 : (a0_0 == 9) = false := beq_eq_false_iff_ne.mpr c52
         have c52b1 : (a0_0 != 9) = true := bne_iff_ne.mpr c52
         simp only [Option.some.injEq, Prod.mk.injEq] at H
         obtain ⟨rfl, rfl, rfl, rfl⟩ := H
         have hnb59 := NB467_468.out
         have hnc59 := NB468_467.out
         have hnb60 := NB467_469.out
         have hnc60 := NB469_467.out
         obtain ⟨hcz61_0, hcz61_1, hcz61_2, hcz61_3, hfz61_0, hfz61_1, hfz61_2, hfz61_3⟩ := bk4 BK467.out
         have hnb62 := NB469_468.out
         have hnc62 := NB468_469.out
         obtain ⟨hcz63_0, hcz63_1, hcz63_2, hcz63_3, hfz63_0, hfz63_1, hfz63_2, hfz63_3⟩ := bk4 BK469.out
         obtain ⟨hcz64_0, hcz64_1, hcz64_2, hcz64_3, hfz64_0, hfz64_1, hfz64_2, hfz64_3⟩ := bk4 BK468.out
         go_wp2
         refine bodyPost_ret (results_cell_row rfl _ _ gb468 25 #[.int .i64 a0_0, .int .i64 x470001_22, .int .i64 0, .int .i64 0] (0, 0) _ rfl (by refine skk ?_; refine blk_put (cs := #[.int .i64 a0_0, .int .i64 x470001_22, .int .i64 0, .int .i64 0]) ?_ 3 _ rfl; refine skk ?_; refine blk_put (cs := #[.int .i64 a0_0, .int .i64 x470001_22, .int .i64 0, .int .i64 0]) ?_ 2 _ rfl; refine skk ?_; refine blk_put (cs := #[.int .i64 a0_0, .int .i64 0, .int .i64 0, .int .i64 0]) ?_ 1 _ rfl; refine skk ?_; refine blk_put (cs := #[.int .i64 0, .int .i64 0, .int .i64 0, .int .i64 0]) ?_ 0 _ rfl; refine skk ?_; exact BK468.out) Try.underlying25 rfl (by kernel_rfl)) rfl ?_
         exact ⟨re, by repeat (first | (with_reducible first | exact HB.out | apply below_alloc | apply pw_below_drewN | apply below_drew1 | refine below_set ?_ GE467.out | refine below_set ?_ GE468.out | refine below_set ?_ GE469.out) | exact HB.out)⟩
end Go.Proofs.Ytanlnfcjdjamaaa.P
/- F58 -/
namespace Go.Proofs.Ytanlnfcjdjamaaa.P
open Go.RowKit Go.Proofs.YtanlnfcjdjamaaaW.PrintWords Go.Proofs.YtanlnfcjdjamaaaW.PrintLast Go.Proofs.YtanlnfcjdjamaaaW.PrintMore
attribute [local go_sem] max2_int min2_int max_two min_two max_three min_three max_four min_four   -- for this text's walks alone
set_option linter.unusedVariables false
set_option linter.unusedSimpArgs false
def larchref06_Changes.f (a0 : Int) : Option (Bool) := if a0 ≥ 2 then (some (decide (a0 ≤ 4))) else (some false)
set_option maxHeartbeats 8000000 in
set_option maxRecDepth 100000 in
theorem larchref06_Changes.calls (a0 : Int) (r : Bool) (w : World) (h : larchref06_Changes.f a0 = some r) :
  Calls Try.prog 34 #[.int .i64 a0] w fun e w' => e = .returned (.bool r) ∧ Drawn0 w w' := by
 have H : (if a0 ≥ 2 then (some (decide (a0 ≤ 4))) else (some false)) = some r := h
 clear h
 by_cases c2 : a0 ≥ 2
 ·
  rw [if_pos c2] at H
  have c2b0 : decide (2 ≤ a0) = true := decide_eq_true c2
  clear c2
  obtain rfl := Option.some.inj H
  go_enter Try.func34, Try.ntmps34
  go_wp2
  go_ret
  exact ⟨by first | rfl | (simp; done) | (simp [*]; done), by repeat (first | exact Drawn0.refl _ | apply Drawn0.step)⟩
 ·
  rw [if_neg c2] at H
  have c2b0 : decide (2 ≤ a0) = false := decide_eq_false c2
  clear c2
  obtain rfl := Option.some.inj H
  go_enter Try.func34, Try.ntmps34
  go_wp2
  go_ret
  exact ⟨by first | rfl | (simp; done) | (simp [*]; done), by repeat (first | exact Drawn0.refl _ | apply Drawn0.step)⟩
end Go.Proofs.Ytanlnfcjdjamaaa.P
/- F59 -/
namespace Go.Proofs.Ytanlnfcjdjamaaa.P
open Go.RowKit Go.Proofs.YtanlnfcjdjamaaaW.PrintWords Go.Proofs.YtanlnfcjdjamaaaW.PrintLast Go.Proofs.YtanlnfcjdjamaaaW.PrintMore
attribute [local go_sem] max2_int min2_int max_two min_two max_three min_three max_four min_four   -- for this text's walks alone
set_option linter.unusedVariables false
set_option linter.unusedSimpArgs false
def larchref06_Find.l0 : Nat → List (S51) → Int → Int → Int → Option (Int × Bool × Int)
 | 0, _, _, _, _ => none
 | k + 1, x0, x1, x7, x8 => if x8 < (x0.length : Int) then (if 0 ≤ x8 then (if ((J51 x0 x8).f0) < x1 then (larchref06_Find.l0 k x0 x1 (wrap64 (x7 + 1)) (wrap64 (x8 + 1))) else (larchref06_Find.l0 k x0 x1 x7 (wrap64 (x8 + 1)))) else (none)) else ((larchref06_look.f k x0 x1).bind fun bt473 => (some (x7, bt473.2, 0)))
def larchref06_Find.f (k : Nat) (l0 : List (S51)) (a1 : Int) : Option (Int × Bool × Int) := (larchref06_Check.f k l0).bind fun t471 => (if t471 = 0 then (larchref06_Find.l0 k l0 a1 0 0) else (some (0, false, 11)))
set_option maxHeartbeats 8000000 in
set_option maxRecDepth 100000 in
theorem larchref06_Find.calls (k : Nat) (A0 : Option Addr) (c0 : Nat) (l0 : List (S51)) (a1 : Int) (r1 : Int) (r2 : Bool) (r3 : Int) (w : World) (hr0 : Kd.C k51 w A0 l0.length l0) (hc0 : l0.length ≤ c0) (h : larchref06_Find.f k l0 a1 = some (r1, r2, r3)) :
  Calls Try.prog 35 #[.slice A0 l0.length c0, .int .i64 a1] w fun e w' => e = .returned (.tuple #[.int .i64 r1, .bool r2, .int .i64 r3]) ∧ Drawn0 w w' := by
 have HR0 := asd hr0
 have HC0 := asd hc0
 clear hr0 hc0
 have H : ((larchref06_Check.f k l0).bind fun t471 => (if t471 = 0 then (larchref06_Find.l0 k l0 a1 0 0) else (some (0, false, 11)))) = some (r1, r2, r3) := h
 clear h
 replace H := Option.bind_eq_some_iff.mp H
 obtain ⟨t471, A30, H⟩ := H
 replace H : (if t471 = 0 then (larchref06_Find.l0 k l0 a1 0 0) else (some (0, false, 11))) = some (r1, r2, r3) := H
 have A3 := asd A30
 clear A30
 by_cases c4 : t471 = 0
 ·
  rw [if_pos c4] at H
  have c4b0 : (t471 == 0) = true := beq_iff_eq.mpr c4
  have c4b1 : (t471 != 0) = false := bne_eq_false_iff_eq.mpr c4
  clear c4
  have H' := asd H
  clear H
  go_enter Try.func35, Try.ntmps35
  go_wp2_with (first | ((with_reducible refine gate_callee (f := 30) rfl ?_); refine goesL_ (some 12) rfl rfl Try.func30 (by kernel_rfl) rfl #[.slice A0 l0.length c0] rfl ags ?_; (with_reducible refine (larchref06_Check.calls k _ _ l0 t471 _ ?side1 ?side2 A3.out).mono ?_); (case side1 => exact skC HR0.out); (case side2 => exact HC0.out); rintro e w' ⟨rfl, ⟨nd, rfl⟩⟩; refine ⟨_, rfl, ?_⟩))
  go_loopg [7, 8] k (fun kq v7 v8 w' => ∃ (x7_1 : Int) (x8_1 : Int), v7 = .int .i64 x7_1 ∧ v8 = .int .i64 x8_1 ∧ Aside0 (larchref06_Find.l0 kq l0 a1 x7_1 x8_1 = some (r1, r2, r3)) ∧ Aside0 (kq ≤ k) ∧ Drawn0 w w')
  case atStart => exact ⟨(0), (0), rs, rs, H', ⟨Nat.le_refl _⟩, by repeat (first | exact Drawn0.refl _ | apply Drawn0.step)⟩
  case round =>
   clear H'
   try clear p2
   try clear c3
   try clear c4
   try clear c4b0
   try clear c4b1
   obtain ⟨x7_1, x8_1, rfl, rfl, HA, HK1, ⟨m1, rfl⟩⟩ := hrel
   cases gk with
   | zero => exact absurd HA.out (by simp [larchref06_Find.l0])
   | succ k1 =>
    have H := HA.out
    clear HA
    simp only [larchref06_Find.l0] at H
    by_cases c5 : x8_1 < (l0.length : Int)
    ·
     rw [if_pos c5] at H
     have c5b0 : decide (x8_1 < (l0.length : Int)) = true := decide_eq_true c5
     clear c5
     by_cases c6 : 0 ≤ x8_1
     ·
      rw [if_pos c6] at H
      have c6b0 : decide (0 ≤ x8_1) = true := decide_eq_true c6
      clear c6
      by_cases c7 : ((J51 l0 x8_1).f0) < a1
      ·
       rw [if_pos c7] at H
       have c7b0 : decide (((J51 l0 x8_1).f0) < a1) = true := decide_eq_true c7
       clear c7
       have H' := asd H
       clear H
       have p472 : 0 ≤ (x8_1 : Int) := dt
       have q472 : x8_1 < (l0.length : Int) := dt
       obtain ⟨ad472, e472, hx472_0, hx472_1⟩ := at_T51 HR0.out x8_1 p472 q472
       cases e472
       replace p472 := eq_true p472
       replace q472 := eq_true q472
       go_wp2
       go_roundg k1
       case measure => have := HK1.out; omega
       case rel => exact ⟨(wrap64 (x7_1 + 1)), (wrap64 (x8_1 + 1)), rs, rs, H', ⟨by have := HK1.out; omega⟩, by repeat (first | exact Drawn0.refl _ | apply Drawn0.step)⟩
      ·
       rw [if_neg c7] at H
       have c7b0 : decide (((J51 l0 x8_1).f0) < a1) = false := decide_eq_false c7
       clear c7
       have H' := asd H
       clear H
       have p472 : 0 ≤ (x8_1 : Int) := dt
       have q472 : x8_1 < (l0.length : Int) := dt
       obtain ⟨ad472, e472, hx472_0, hx472_1⟩ := at_T51 HR0.out x8_1 p472 q472
       cases e472
       replace p472 := eq_true p472
       replace q472 := eq_true q472
       go_wp2
       go_roundg k1
       case measure => have := HK1.out; omega
       case rel => exact ⟨(x7_1), (wrap64 (x8_1 + 1)), rs, rs, H', ⟨by have := HK1.out; omega⟩, by repeat (first | exact Drawn0.refl _ | apply Drawn0.step)⟩
     ·
      rw [if_neg c6] at H
      exact absurd H (by simp)
    ·
     rw [if_neg c5] at H
     have c5b0 : decide (x8_1 < (l0.length : Int)) = false := decide_eq_false c5
     clear c5
     replace H := Option.bind_eq_some_iff.mp H
     obtain ⟨⟨t473, t474⟩, A80, H⟩ := H
     replace H : (some (x7_1, t474, 0)) = some (r1, r2, r3) := H
     have A8 := asd A80
     clear A80
     simp only [Option.some.injEq, Prod.mk.injEq] at H
     obtain ⟨rfl, rfl, rfl⟩ := H
     go_wp2_with (first | ((with_reducible refine gate_callee (f := 48) rfl ?_); refine goesL_ (some 32) rfl rfl Try.func48 (by kernel_rfl) rfl #[.slice A0 l0.length c0, .int .i64 a1] rfl ags ?_; (with_reducible refine (larchref06_look.calls k1 _ _ l0 a1 t473 t474 _ ?side1 ?side2 A8.out).mono ?_); (case side1 => exact skC HR0.out); (case side2 => exact HC0.out); rintro e w' ⟨rfl, ⟨nd, rfl⟩⟩; refine ⟨_, rfl, ?_⟩))
     go_ret3
     exact ⟨by first | rfl | (simp; done) | (simp [*]; done), by repeat (first | exact Drawn0.refl _ | apply Drawn0.step)⟩
 ·
  rw [if_neg c4] at H
  have c4b0 : (t471 == 0) = false := beq_eq_false_iff_ne.mpr c4
  have c4b1 : (t471 != 0) = true := bne_iff_ne.mpr c4
  simp only [Option.some.injEq, Prod.mk.injEq] at H
  obtain ⟨rfl, rfl, rfl⟩ := H
  go_enter Try.func35, Try.ntmps35
  go_wp2_with (first | ((with_reducible refine gate_callee (f := 30) rfl ?_); refine goesL_ (some 12) rfl rfl Try.func30 (by kernel_rfl) rfl #[.slice A0 l0.length c0] rfl ags ?_; (with_reducible refine (larchref06_Check.calls k _ _ l0 t471 _ ?side1 ?side2 A3.out).mono ?_); (case side1 => exact skC HR0.out); (case side2 => exact HC0.out); rintro e w' ⟨rfl, ⟨nd, rfl⟩⟩; refine ⟨_, rfl, ?_⟩))
  go_ret3
  exact ⟨by first | rfl | (simp; done) | (simp [*]; done), by repeat (first | exact Drawn0.refl _ | apply Drawn0.step)⟩
end Go.Proofs.Ytanlnfcjdjamaaa.P
/- F60 -/
namespace Go.Proofs.Ytanlnfcjdjamaaa.P
open Go.RowKit Go.Proofs.YtanlnfcjdjamaaaW.PrintWords Go.Proofs.YtanlnfcjdjamaaaW.PrintLast Go.Proofs.YtanlnfcjdjamaaaW.PrintMore
attribute [local go_sem] max2_int min2_int max_two min_two max_three min_three max_four min_four   -- for this text's walks alone
set_option linter.unusedVariables false
set_option linter.unusedSimpArgs false
mutual
def larchref06_Differ.j0 : Nat → List (S51) → List (S51) → Bool → Option (List Int × Int)
 | 0, _, _, _ => none
 | k + 1, x0, x1, x20 => if x20 = true then (some (([] : List Int), 11)) else (if ([] : List (S51)).length + x0.length < 8796093022208 then ((some (([] : List (S51)) ++ x0 : List (S51))).bind fun y477 => (if y477.length + x1.length < 8796093022208 then ((larchref06_Of.f k (y477 ++ x1)).bind fun t483 => (larchref06_Differ.l0 k x0 x1 t483 ([] : List Int) 0)) else (none))) else (none))
def larchref06_Differ.l0 : Nat → List (S51) → List (S51) → List (S51) → List Int → Int → Option (List Int × Int)
 | 0, _, _, _, _, _ => none
 | k + 1, x0, x1, x6, x7, x8 => if x8 < (x6.length : Int) then (if 0 ≤ x8 then ((larchref06_look.f k x0 ((J51 x6 x8).f0)).bind fun bt487 => ((larchref06_look.f k x1 ((J51 x6 x8).f0)).bind fun bt490 => (if (bt487.2 != bt490.2) = true then (if x7.length < 17592186044416 then (larchref06_Differ.l0 k x0 x1 x6 (x7 ++ [(J51 x6 x8).f0]) (wrap64 (x8 + 1))) else (none)) else (if bt487.1 = bt490.1 then (larchref06_Differ.l0 k x0 x1 x6 x7 (wrap64 (x8 + 1))) else (if x7.length < 17592186044416 then (larchref06_Differ.l0 k x0 x1 x6 (x7 ++ [(J51 x6 x8).f0]) (wrap64 (x8 + 1))) else (none)))))) else (none)) else (some (x7, 0))
end
def larchref06_Differ.f (k : Nat) (l0 : List (S51)) (l1 : List (S51)) : Option (List Int × Int) := (larchref06_Check.f k l0).bind fun t475 => (if t475 = 0 then ((larchref06_Check.f k l1).bind fun t476 => (larchref06_Differ.j0 k l0 l1 (t476 != 0))) else (larchref06_Differ.j0 k l0 l1 true))
set_option maxHeartbeats 8000000 in
set_option maxRecDepth 100000 in
theorem larchref06_Differ.calls (k : Nat) (A0 : Option Addr) (c0 : Nat) (l0 : List (S51)) (A1 : Option Addr) (c1 : Nat) (l1 : List (S51)) (r1 : List Int) (r2 : Int) (w : World) (hr0 : Kd.C k51 w A0 l0.length l0) (hc0 : l0.length ≤ c0) (hr1 : Kd.C k51 w A1 l1.length l1) (hc1 : l1.length ≤ c1) (h : larchref06_Differ.f k l0 l1 = some (r1, r2)) :
  Calls Try.prog 36 #[.slice A0 l0.length c0, .slice A1 l1.length c1] w fun e w' => ∃ v0_ : Value, e = .returned (.tuple #[v0_, .int .i64 r2]) ∧ Kd.R (Kd.int .i64) 3 w' w.heap.size (fun _ => True) v0_ r1 ∧ Below w.heap.size w w' := by
 have HR0 := asd hr0
 have HC0 := asd hc0
 clear hr0 hc0
 have HR1 := asd hr1
 have HC1 := asd hc1
 clear hr1 hc1
 have HB := asd (Below.refl w.heap.size w)
 have H : ((larchref06_Check.f k l0).bind fun t475 => (if t475 = 0 then ((larchref06_Check.f k l1).bind fun t476 => (larchref06_Differ.j0 k l0 l1 (t476 != 0))) else (larchref06_Differ.j0 k l0 l1 true))) = some (r1, r2) := h
 clear h
 have HC3 := asd H
 clear H
 go_enter Try.func36, Try.ntmps36
 go_upto_region 1 with (fail)
 go_cut [20] (fun v20 wc => ∃ (kq : Nat) (x20_2 : Bool), v20 = .bool x20_2 ∧ Aside0 (larchref06_Differ.j0 kq l0 l1 x20_2 = some (r1, r2)) ∧ Aside0 (kq ≤ k) ∧ Aside0 (Below w.heap.size w wc))
 case first =>
  have H := HC3.out
  clear HC3
  replace H := Option.bind_eq_some_iff.mp H
  obtain ⟨t475, A40, H⟩ := H
  replace H : (if t475 = 0 then ((larchref06_Check.f k l1).bind fun t476 => (larchref06_Differ.j0 k l0 l1 (t476 != 0))) else (larchref06_Differ.j0 k l0 l1 true)) = some (r1, r2) := H
  have A4 := asd A40
  clear A40
  by_cases c5 : t475 = 0
  ·
   rw [if_pos c5] at H
   have c5b0 : (t475 == 0) = true := beq_iff_eq.mpr c5
   have c5b1 : (t475 != 0) = false := bne_eq_false_iff_eq.mpr c5
   clear c5
   (first | rw [c5b0] | (simp only [i64_w, i32_w]; rw [c5b0]) | skip)
   replace H := Option.bind_eq_some_iff.mp H
   obtain ⟨t476, A60, H⟩ := H
   replace H : (larchref06_Differ.j0 k l0 l1 (t476 != 0)) = some (r1, r2) := H
   have A6 := asd A60
   clear A60
   have H' := asd H
   clear H
   go_wp2_with (first | ((with_reducible refine gate_callee (f := 30) rfl ?_); refine goesL_ (some 14) rfl rfl Try.func30 (by kernel_rfl) rfl #[.slice A0 l0.length c0] rfl ags ?_; (with_reducible refine (larchref06_Check.calls k _ _ l0 t475 _ ?side1 ?side2 A4.out).mono ?_); (case side1 => exact skC (Kd.C_below HR0.out HB.out)); (case side2 => exact HC0.out); rintro e w' ⟨rfl, ⟨nd, rfl⟩⟩; refine ⟨_, rfl, ?_⟩) | (go_at_call 30; (with_reducible refine (larchref06_Check.calls k _ _ l1 t476 _ ?side1 ?side2 A6.out).mono ?_); (case side1 => exact Kd.C_below HR1.out (skB HB.out)); (case side2 => exact HC1.out); rintro e w' ⟨rfl, ⟨nd, rfl⟩⟩))
   go_meet
   case rel => exact ⟨_, ((t476 != 0)), rs, H', ⟨by first | omega | exact Nat.le_refl _⟩, ⟨skB HB.out⟩⟩
  ·
   rw [if_neg c5] at H
   have c5b0 : (t475 == 0) = false := beq_eq_false_iff_ne.mpr c5
   have c5b1 : (t475 != 0) = true := bne_iff_ne.mpr c5
   (first | rw [c5b0] | (simp only [i64_w, i32_w]; rw [c5b0]) | skip)
   have H' := asd H
   clear H
   go_wp2_with (first | ((with_reducible refine gate_callee (f := 30) rfl ?_); refine goesL_ (some 14) rfl rfl Try.func30 (by kernel_rfl) rfl #[.slice A0 l0.length c0] rfl ags ?_; (with_reducible refine (larchref06_Check.calls k _ _ l0 t475 _ ?side1 ?side2 A4.out).mono ?_); (case side1 => exact skC (Kd.C_below HR0.out HB.out)); (case side2 => exact HC0.out); rintro e w' ⟨rfl, ⟨nd, rfl⟩⟩; refine ⟨_, rfl, ?_⟩))
   go_meet
   case rel => exact ⟨_, (true), rs, H', ⟨by first | omega | exact Nat.le_refl _⟩, ⟨skB HB.out⟩⟩
 case rest =>
  clear HC3
  try clear c1
  try clear p2
  try clear c3
  try clear c5
  try clear c5b0
  try clear c5b1
  obtain ⟨kq, x20_2, rfl, HA, HJ2, HB⟩ := hcut
  cases kq with
  | zero => exact absurd HA.out (by simp [larchref06_Differ.j0])
  | succ kj2 =>
   have H := HA.out
   clear HA
   simp only [larchref06_Differ.j0] at H
   by_cases c7 : x20_2 = true
   ·
    subst c7
    have H1 : (some (([] : List Int), 11)) = some (r1, r2) := by rw [if_pos rfl] at H; exact H
    clear H
    have H := H1
    clear H1
    simp only [Option.some.injEq, Prod.mk.injEq] at H
    obtain ⟨rfl, rfl⟩ := H
    go_wp2
    go_ret2
    exact ⟨_, re, by first | exact Kd.R_nil _ _ _ _ _ | exact Kd.N_nil _ _ _ _ _ | exact Kd.V_nil _ _ _ _ _ | exact Kd.Q_nil _ _ _ _ _ | exact Kd.S_nil _ _ _ _ _, skB HB.out⟩
   ·
    replace c7 := Bool.eq_false_iff.mpr c7
    subst c7
    have H1 : (if ([] : List (S51)).length + l0.length < 8796093022208 then ((some (([] : List (S51)) ++ l0 : List (S51))).bind fun y477 => (if y477.length + l1.length < 8796093022208 then ((larchref06_Of.f kj2 (y477 ++ l1)).bind fun t483 => (larchref06_Differ.l0 kj2 l0 l1 t483 ([] : List Int) 0)) else (none))) else (none)) = some (r1, r2) := by rw [if_neg (show ¬ (false = true) by decide)] at H; exact H
    clear H
    have H := H1
    clear H1
    by_cases c8 : ([] : List (S51)).length + l0.length < 8796093022208
    ·
     rw [if_pos c8] at H
     have LMc8 := asd c8
     clear c8
     obtain ⟨y477, hy477⟩ : ∃ y_ : List (S51), y_ = (([] : List (S51)) ++ l0) := ⟨_, rfl⟩
     replace H : (if y477.length + l1.length < 8796093022208 then ((larchref06_Of.f kj2 (y477 ++ l1)).bind fun t483 => (larchref06_Differ.l0 kj2 l0 l1 t483 ([] : List Int) 0)) else (none)) = some (r1, r2) := by first | (rw [hy477]; with_reducible exact H) | (have H2_ := (Option.bind_some _ _).symm.trans H; rw [hy477]; with_reducible exact H2_) | (have H2_ := (Option.bind_some _ _).symm.trans H; with_reducible exact H2_) | with_reducible exact H | (rw [hy477]; exact H) | exact H
     have Ny477 := asd hy477
     clear hy477
     by_cases c9 : y477.length + l1.length < 8796093022208
     ·
      rw [if_pos c9] at H
      have LMc9 := asd c9
      clear c9
      obtain ⟨y480, hy480⟩ : ∃ y_ : List (S51), y_ = (y477 ++ l1) := ⟨_, rfl⟩
      replace H : ((larchref06_Of.f kj2 y480).bind fun t483 => (larchref06_Differ.l0 kj2 l0 l1 t483 ([] : List Int) 0)) = some (r1, r2) := by first | (rw [hy480]; with_reducible exact H) | (have H2_ := (Option.bind_some _ _).symm.trans H; rw [hy480]; with_reducible exact H2_) | (have H2_ := (Option.bind_some _ _).symm.trans H; with_reducible exact H2_) | with_reducible exact H | (rw [hy480]; exact H) | exact H
      have Ny480 := asd hy480
      clear hy480
      replace H := Option.bind_eq_some_iff.mp H
      obtain ⟨t483, A100, H⟩ := H
      replace H : (larchref06_Differ.l0 kj2 l0 l1 t483 ([] : List Int) 0) = some (r1, r2) := H
      have A10 := asd A100
      clear A100
      have H' := asd H
      clear H
      go_wp2_with (first | ((with_reducible refine gate_builtin (b := .append) (xs := #[.tmp 21, .tmp 22]) rfl ?_); at_builtin; refine Kd.R_append_rows k51 (w0 := w) w.heap.size rfl (.tmp 21) (.tmp 22) 22 51 (.agg #[(.int .i64 0), (.int .i64 0)]) 16 rfl Try.underlying22 info51 rfl (by decide) (by omega) (.slice none 0 0) ([] : List (S51)) l0 _ _ _ (fun _ => True) (fun _ => False) rfl rfl ?aO ?aR (fun _ _ h => h) (fun _ h => h.elim) ?aF ?aB ?aS ?aL ?_; (case aR => exact skC (Kd.C_below HR0.out HB.out)); (case aB => exact (skB HB.out)); (case aF => exact (fun _ _ => trivial)); (case aO => exact ((Kd.R_nil _ _ _ _ (fun _ => True)))); (case aS => exact (below_size (skB HB.out))); (case aL => have := LMc8.out; omega); intro v478 w11 ho hb hg hat; rw [← Ny477.out] at ho; have n0_ := asd (hb); have n1_ := asd (ho); clear HB; have HB := n0_; have HO479 := n1_; clear n0_ n1_; clear ho hb hg hat) | ((with_reducible refine gate_builtin (b := .append) (xs := #[.tmp 23, .tmp 24]) rfl ?_); at_builtin; refine Kd.R_append_rows k51 (w0 := w) w.heap.size rfl (.tmp 23) (.tmp 24) 22 51 (.agg #[(.int .i64 0), (.int .i64 0)]) 16 rfl Try.underlying22 info51 rfl (by decide) (by omega) v478 y477 l1 _ _ _ (fun _ => True) (fun _ => False) rfl rfl ?aO ?aR (fun _ _ h => h) (fun _ h => h.elim) ?aF ?aB ?aS ?aL ?_; (case aR => exact skC (Kd.C_below HR1.out HB.out)); (case aB => exact (skB HB.out)); (case aF => exact (fun _ _ => trivial)); (case aO => exact (skR HO479.out)); (case aS => exact (below_size (skB HB.out))); (case aL => have := LMc9.out; omega); intro v481 w12 ho hb hg hat; rw [← Ny480.out] at ho; have n0_ := asd (hb); have n1_ := asd (ho); clear HB; clear HO479; have HB := n0_; have HO482 := n1_; clear n0_ n1_; clear ho hb hg hat; obtain ⟨Ao13, co13, eo13⟩ := Kd.R_slice HO482.out; subst eo13) | ((with_reducible refine gate_callee (f := 26) rfl ?_); refine goesL_ (some 26) rfl rfl Try.func26 (by kernel_rfl) rfl #[.slice Ao13 y480.length co13] rfl ags ?_; (with_reducible refine (larchref06_Of.calls kj2 _ _ y480 t483 _ ?side1 ?side2 A10.out).mono ?_); (case side1 => exact skC (Kd.R_reads' HO482.out).2.2); (case side2 => exact (Kd.R_reads' HO482.out).2.1); rintro e w14 ⟨v484, rfl, ho0, hb⟩; refine ⟨_, rfl, ?_⟩; have n0_ := asd (Kd.R_elder' (skR HO482.out) (Kd.R_base ho0) hb); have n1_ := asd (Kd.R_lower (Kd.R_new' ho0 (Kd.R_lt (skR HO482.out))) (below_size (skB HB.out))); have n2_ := asd (below_step (skB HB.out) hb); clear HO482; clear HB; have HO482 := n0_; have HO485 := n1_; have HB := n2_; clear n0_ n1_ n2_; (try clear hb); (try clear hb2); (try clear hk); (try clear hi); (try clear ho0)))
      go_loopg [7, 8] kj2 (fun kq v7 v8 w' => ∃ (x7_2 : List Int) (x8_2 : Int), v8 = .int .i64 x8_2 ∧ Aside0 (larchref06_Differ.l0 kq l0 l1 t483 x7_2 x8_2 = some (r1, r2)) ∧ Aside0 (kq ≤ kj2) ∧ Aside0 (Kd.R k51 51 w' w.heap.size (fun _ => True) v484 t483) ∧ Aside0 (Kd.R (Kd.int .i64) 3 w' w.heap.size (fun _ => True) v7 x7_2) ∧ Aside0 (Below w.heap.size w w'))
      case atStart => exact ⟨(([] : List Int)), (0), rs, H', ⟨Nat.le_refl _⟩, ⟨skR (Kd.R_mono HO485.out (fun _ hk => trivial))⟩, ⟨by first | exact Kd.R_nil _ _ _ _ _ | exact Kd.N_nil _ _ _ _ _ | exact Kd.V_nil _ _ _ _ _ | exact Kd.Q_nil _ _ _ _ _ | exact Kd.S_nil _ _ _ _ _⟩, ⟨skB HB.out⟩⟩
      case round =>
       clear H'
       try clear c1
       try clear c2
       try clear p2
       try clear c3
       try clear c5
       try clear c5b0
       try clear c5b1
       try clear c7
       try clear c8
       try clear c9
       try clear p2
       obtain ⟨x7_2, x8_2, rfl, HA, HK2, HO_6, HO_7, HB⟩ := hrel
       cases gk with
       | zero => exact absurd HA.out (by simp [larchref06_Differ.l0])
       | succ k2 =>
        have H := HA.out
        clear HA
        simp only [larchref06_Differ.l0] at H
        by_cases c15 : x8_2 < (t483.length : Int)
        ·
         rw [if_pos c15] at H
         have c15b0 : decide (x8_2 < (t483.length : Int)) = true := decide_eq_true c15
         clear c15
         by_cases c16 : 0 ≤ x8_2
         ·
          rw [if_pos c16] at H
          have c16b0 : decide (0 ≤ x8_2) = true := decide_eq_true c16
          clear c16
          replace H := Option.bind_eq_some_iff.mp H
          obtain ⟨⟨t487, t488⟩, A170, H⟩ := H
          replace H : ((larchref06_look.f k2 l1 ((J51 t483 x8_2).f0)).bind fun bt490 => (if (t488 != bt490.2) = true then (if x7_2.length < 17592186044416 then (larchref06_Differ.l0 k2 l0 l1 t483 (x7_2 ++ [(J51 t483 x8_2).f0]) (wrap64 (x8_2 + 1))) else (none)) else (if t487 = bt490.1 then (larchref06_Differ.l0 k2 l0 l1 t483 x7_2 (wrap64 (x8_2 + 1))) else (if x7_2.length < 17592186044416 then (larchref06_Differ.l0 k2 l0 l1 t483 (x7_2 ++ [(J51 t483 x8_2).f0]) (wrap64 (x8_2 + 1))) else (none))))) = some (r1, r2) := H
          have A17 := asd A170
          clear A170
          replace H := Option.bind_eq_some_iff.mp H
          obtain ⟨⟨t490, t491⟩, A180, H⟩ := H
          replace H : (if (t488 != t491) = true then (if x7_2.length < 17592186044416 then (larchref06_Differ.l0 k2 l0 l1 t483 (x7_2 ++ [(J51 t483 x8_2).f0]) (wrap64 (x8_2 + 1))) else (none)) else (if t487 = t490 then (larchref06_Differ.l0 k2 l0 l1 t483 x7_2 (wrap64 (x8_2 + 1))) else (if x7_2.length < 17592186044416 then (larchref06_Differ.l0 k2 l0 l1 t483 (x7_2 ++ [(J51 t483 x8_2).f0]) (wrap64 (x8_2 + 1))) else (none)))) = some (r1, r2) := H
          have A18 := asd A180
          clear A180
          by_cases c19 : (t488 != t491) = true
          ·
           rw [if_pos c19] at H
           have c19b0 : (t488 != t491) = true := c19
           (try (have c19b1 : decide (t488 = t491) = false := by simpa using c19))
           (try (have c19b2 : (t488 == t491) = false := by simpa using c19))
           (try (have c19b3 : ¬ (t488 = t491) := by simpa using c19))
           clear c19
           by_cases c20 : x7_2.length < 17592186044416
           ·
            rw [if_pos c20] at H
            have LMc20 := asd c20
            clear c20
            obtain ⟨y493, hy493⟩ : ∃ y_ : List Int, y_ = (x7_2 ++ [(J51 t483 x8_2).f0]) := ⟨_, rfl⟩
            replace H : (larchref06_Differ.l0 k2 l0 l1 t483 y493 (wrap64 (x8_2 + 1))) = some (r1, r2) := by first | (rw [hy493]; with_reducible exact H) | (have H2_ := (Option.bind_some _ _).symm.trans H; rw [hy493]; with_reducible exact H2_) | (have H2_ := (Option.bind_some _ _).symm.trans H; with_reducible exact H2_) | with_reducible exact H | (rw [hy493]; exact H) | exact H
            have Ny493 := asd hy493
            clear hy493
            have H' := asd H
            clear H
            obtain ⟨Ao21, co21, eo21⟩ := Kd.R_slice HO_6.out
            subst eo21
            have p486 : 0 ≤ (x8_2 : Int) := dt
            have q486 : x8_2 < (t483.length : Int) := dt
            obtain ⟨ad486, e486, hx486_0, hx486_1⟩ := at_T51 (Kd.R_reads' HO_6.out).2.2 x8_2 p486 q486
            cases e486
            replace p486 := eq_true p486
            replace q486 := eq_true q486
            go_wp2_with (first | ((with_reducible refine gate_callee (f := 48) rfl ?_); refine goesL_ (some 40) rfl rfl Try.func48 (by kernel_rfl) rfl #[.slice A0 l0.length c0, .int .i64 ((J51 t483 x8_2).f0)] rfl ags ?_; (with_reducible refine (larchref06_look.calls k2 _ _ l0 ((J51 t483 x8_2).f0) t487 t488 _ ?side1 ?side2 A17.out).mono ?_); (case side1 => exact skC (Kd.C_below HR0.out HB.out)); (case side2 => exact HC0.out); rintro e w' ⟨rfl, ⟨nd, rfl⟩⟩; refine ⟨_, rfl, ?_⟩; have p489 : 0 ≤ (x8_2 : Int) := dt; have q489 : x8_2 < (t483.length : Int) := dt; obtain ⟨ad489, e489, hx489_0, hx489_1⟩ := at_T51 (Kd.R_reads' HO_6.out).2.2 x8_2 p489 q489; obtain rfl : ad486 = ad489 := (by injection e489); replace p489 := eq_true p489; replace q489 := eq_true q489) | ((with_reducible refine gate_callee (f := 48) rfl ?_); refine goesL_ (some 50) rfl rfl Try.func48 (by kernel_rfl) rfl #[.slice A1 l1.length c1, .int .i64 ((J51 t483 x8_2).f0)] rfl ags ?_; (with_reducible refine (larchref06_look.calls k2 _ _ l1 ((J51 t483 x8_2).f0) t490 t491 _ ?side1 ?side2 A18.out).mono ?_); (case side1 => exact Kd.C_below HR1.out (skB HB.out)); (case side2 => exact HC1.out); rintro e w' ⟨rfl, ⟨nd, rfl⟩⟩; refine ⟨_, rfl, ?_⟩; have p492 : 0 ≤ (x8_2 : Int) := dt; have q492 : x8_2 < (t483.length : Int) := dt; obtain ⟨ad492, e492, hx492_0, hx492_1⟩ := at_T51 (Kd.R_reads' HO_6.out).2.2 x8_2 p492 q492; obtain rfl : ad486 = ad492 := (by injection e492); replace p492 := eq_true p492; replace q492 := eq_true q492) | ((with_reducible refine gate_builtin (b := .append) (xs := #[.tmp 61, .tmp 67]) rfl ?_); at_builtin; refine Kd.R_append (Kd.int .i64) (w0 := w) w.heap.size rfl (.tmp 61) (.tmp 67) 55 3 (.int .i64 0) 8 rfl Try.underlying55 info3 rfl (by decide) (by omega) u7 x7_2 ((J51 t483 x8_2).f0) [.int .i64 ((J51 t483 x8_2).f0)] (fun _ => True) (fun _ => False) rfl rfl ?aP (fun _ hk => hk.elim) ?aF ?aO ?aB ?aS ?aL ?_; (case aP => exact rfl); (case aB => exact (skB HB.out)); (case aF => exact (fun _ _ => trivial)); (case aO => exact (skR HO_7.out)); (case aS => exact (below_size (skB HB.out))); (case aL => have := LMc20.out; omega); intro v494 w22 ho hb hg hat; rw [← Ny493.out] at ho; have n0_ := asd (Kd.R_over' (skR HO_6.out) (Kd.R_typed (skR HO_7.out)) (by decide) hg); have n1_ := asd (hb); have n2_ := asd (ho); clear HO_6; clear HB; clear HO_7; have HO_6 := n0_; have HB := n1_; have HO495 := n2_; clear n0_ n1_ n2_; clear ho hb hg hat))
            go_roundg k2
            case measure => have := HJ2.out; have := HK2.out; omega
            case rel => exact ⟨(y493), (wrap64 (x8_2 + 1)), rs, H', ⟨by have := HJ2.out; have := HK2.out; omega⟩, ⟨skR HO_6.out⟩, ⟨skR HO495.out⟩, ⟨skB HB.out⟩⟩
           ·
            rw [if_neg c20] at H
            exact absurd H (by simp)
          ·
           rw [if_neg c19] at H
           have c19b0 : (t488 != t491) = false := by simpa using c19
           (try (have c19b1 : decide (t488 = t491) = true := by simpa using c19))
           (try (have c19b2 : (t488 == t491) = true := by simpa using c19))
           clear c19
           by_cases c23 : t487 = t490
           ·
            rw [if_pos c23] at H
            have c23b0 : (t487 == t490) = true := beq_iff_eq.mpr c23
            have c23b1 : (t487 != t490) = false := bne_eq_false_iff_eq.mpr c23
            clear c23
            have H' := asd H
            clear H
            obtain ⟨Ao24, co24, eo24⟩ := Kd.R_slice HO_6.out
            subst eo24
            have p486 : 0 ≤ (x8_2 : Int) := dt
            have q486 : x8_2 < (t483.length : Int) := dt
            obtain ⟨ad486, e486, hx486_0, hx486_1⟩ := at_T51 (Kd.R_reads' HO_6.out).2.2 x8_2 p486 q486
            cases e486
            replace p486 := eq_true p486
            replace q486 := eq_true q486
            go_wp2_with (first | ((with_reducible refine gate_callee (f := 48) rfl ?_); refine goesL_ (some 40) rfl rfl Try.func48 (by kernel_rfl) rfl #[.slice A0 l0.length c0, .int .i64 ((J51 t483 x8_2).f0)] rfl ags ?_; (with_reducible refine (larchref06_look.calls k2 _ _ l0 ((J51 t483 x8_2).f0) t487 t488 _ ?side1 ?side2 A17.out).mono ?_); (case side1 => exact skC (Kd.C_below HR0.out HB.out)); (case side2 => exact HC0.out); rintro e w' ⟨rfl, ⟨nd, rfl⟩⟩; refine ⟨_, rfl, ?_⟩; have p489 : 0 ≤ (x8_2 : Int) := dt; have q489 : x8_2 < (t483.length : Int) := dt; obtain ⟨ad489, e489, hx489_0, hx489_1⟩ := at_T51 (Kd.R_reads' HO_6.out).2.2 x8_2 p489 q489; obtain rfl : ad486 = ad489 := (by injection e489); replace p489 := eq_true p489; replace q489 := eq_true q489) | ((with_reducible refine gate_callee (f := 48) rfl ?_); refine goesL_ (some 50) rfl rfl Try.func48 (by kernel_rfl) rfl #[.slice A1 l1.length c1, .int .i64 ((J51 t483 x8_2).f0)] rfl ags ?_; (with_reducible refine (larchref06_look.calls k2 _ _ l1 ((J51 t483 x8_2).f0) t490 t491 _ ?side1 ?side2 A18.out).mono ?_); (case side1 => exact Kd.C_below HR1.out (skB HB.out)); (case side2 => exact HC1.out); rintro e w' ⟨rfl, ⟨nd, rfl⟩⟩; refine ⟨_, rfl, ?_⟩))
            go_roundg k2
            case measure => have := HJ2.out; have := HK2.out; omega
            case rel => exact ⟨(x7_2), (wrap64 (x8_2 + 1)), rs, H', ⟨by have := HJ2.out; have := HK2.out; omega⟩, ⟨skR HO_6.out⟩, ⟨skR HO_7.out⟩, ⟨skB HB.out⟩⟩
           ·
            rw [if_neg c23] at H
            have c23b0 : (t487 == t490) = false := beq_eq_false_iff_ne.mpr c23
            have c23b1 : (t487 != t490) = true := bne_iff_ne.mpr c23
            by_cases c25 : x7_2.length < 17592186044416
            ·
             rw [if_pos c25] at H
             have LMc25 := asd c25
             clear c25
             obtain ⟨y497, hy497⟩ : ∃ y_ : List Int, y_ = (x7_2 ++ [(J51 t483 x8_2).f0]) := ⟨_, rfl⟩
             replace H : (larchref06_Differ.l0 k2 l0 l1 t483 y497 (wrap64 (x8_2 + 1))) = some (r1, r2) := by first | (rw [hy497]; with_reducible exact H) | (have H2_ := (Option.bind_some _ _).symm.trans H; rw [hy497]; with_reducible exact H2_) | (have H2_ := (Option.bind_some _ _).symm.trans H; with_reducible exact H2_) | with_reducible exact H | (rw [hy497]; exact H) | exact H
             have Ny497 := asd hy497
             clear hy497
             have H' := asd H
             clear H
             obtain ⟨Ao26, co26, eo26⟩ := Kd.R_slice HO_6.out
             subst eo26
             have p486 : 0 ≤ (x8_2 : Int) := dt
             have q486 : x8_2 < (t483.length : Int) := dt
             obtain ⟨ad486, e486, hx486_0, hx486_1⟩ := at_T51 (Kd.R_reads' HO_6.out).2.2 x8_2 p486 q486
             cases e486
             replace p486 := eq_true p486
             replace q486 := eq_true q486
             go_wp2_with (first | ((with_reducible refine gate_callee (f := 48) rfl ?_); refine goesL_ (some 40) rfl rfl Try.func48 (by kernel_rfl) rfl #[.slice A0 l0.length c0, .int .i64 ((J51 t483 x8_2).f0)] rfl ags ?_; (with_reducible refine (larchref06_look.calls k2 _ _ l0 ((J51 t483 x8_2).f0) t487 t488 _ ?side1 ?side2 A17.out).mono ?_); (case side1 => exact skC (Kd.C_below HR0.out HB.out)); (case side2 => exact HC0.out); rintro e w' ⟨rfl, ⟨nd, rfl⟩⟩; refine ⟨_, rfl, ?_⟩; have p489 : 0 ≤ (x8_2 : Int) := dt; have q489 : x8_2 < (t483.length : Int) := dt; obtain ⟨ad489, e489, hx489_0, hx489_1⟩ := at_T51 (Kd.R_reads' HO_6.out).2.2 x8_2 p489 q489; obtain rfl : ad486 = ad489 := (by injection e489); replace p489 := eq_true p489; replace q489 := eq_true q489) | ((with_reducible refine gate_callee (f := 48) rfl ?_); refine goesL_ (some 50) rfl rfl Try.func48 (by kernel_rfl) rfl #[.slice A1 l1.length c1, .int .i64 ((J51 t483 x8_2).f0)] rfl ags ?_; (with_reducible refine (larchref06_look.calls k2 _ _ l1 ((J51 t483 x8_2).f0) t490 t491 _ ?side1 ?side2 A18.out).mono ?_); (case side1 => exact Kd.C_below HR1.out (skB HB.out)); (case side2 => exact HC1.out); rintro e w' ⟨rfl, ⟨nd, rfl⟩⟩; refine ⟨_, rfl, ?_⟩; have p496 : 0 ≤ (x8_2 : Int) := dt; have q496 : x8_2 < (t483.length : Int) := dt; obtain ⟨ad496, e496, hx496_0, hx496_1⟩ := at_T51 (Kd.R_reads' HO_6.out).2.2 x8_2 p496 q496; obtain rfl : ad486 = ad496 := (by injection e496); replace p496 := eq_true p496; replace q496 := eq_true q496) | ((with_reducible refine gate_builtin (b := .append) (xs := #[.tmp 61, .tmp 67]) rfl ?_); at_builtin; refine Kd.R_append (Kd.int .i64) (w0 := w) w.heap.size rfl (.tmp 61) (.tmp 67) 55 3 (.int .i64 0) 8 rfl Try.underlying55 info3 rfl (by decide) (by omega) u7 x7_2 ((J51 t483 x8_2).f0) [.int .i64 ((J51 t483 x8_2).f0)] (fun _ => True) (fun _ => False) rfl rfl ?aP (fun _ hk => hk.elim) ?aF ?aO ?aB ?aS ?aL ?_; (case aP => exact rfl); (case aB => exact (skB HB.out)); (case aF => exact (fun _ _ => trivial)); (case aO => exact (skR HO_7.out)); (case aS => exact (below_size (skB HB.out))); (case aL => have := LMc25.out; omega); intro v498 w27 ho hb hg hat; rw [← Ny497.out] at ho; have n0_ := asd (Kd.R_over' (skR HO_6.out) (Kd.R_typed (skR HO_7.out)) (by decide) hg); have n1_ := asd (hb); have n2_ := asd (ho); clear HO_6; clear HB; clear HO_7; have HO_6 := n0_; have HB := n1_; have HO499 := n2_; clear n0_ n1_ n2_; clear ho hb hg hat))
             go_roundg k2
             case measure => have := HJ2.out; have := HK2.out; omega
             case rel => exact ⟨(y497), (wrap64 (x8_2 + 1)), rs, H', ⟨by have := HJ2.out; have := HK2.out; omega⟩, ⟨skR HO_6.out⟩, ⟨skR HO499.out⟩, ⟨skB HB.out⟩⟩
            ·
             rw [if_neg c25] at H
             exact absurd H (by simp)
         ·
          rw [if_neg c16] at H
          exact absurd H (by simp)
        ·
         rw [if_neg c15] at H
         have c15b0 : decide (x8_2 < (t483.length : Int)) = false := decide_eq_false c15
         clear c15
         simp only [Option.some.injEq, Prod.mk.injEq] at H
         obtain ⟨rfl, rfl⟩ := H
         obtain ⟨Ao28, co28, eo28⟩ := Kd.R_slice HO_6.out
         subst eo28
         go_wp2
         go_ret2
         exact ⟨_, re, skR HO_7.out, skB HB.out⟩
     ·
      rw [if_neg c9] at H
      exact absurd H (by simp)
    ·
     rw [if_neg c8] at H
     exact absurd H (by simp)
end Go.Proofs.Ytanlnfcjdjamaaa.P
/- F25 -/
namespace Go.Proofs.Ytanlnfcjdjamaaa.P
open Go.RowKit Go.Proofs.YtanlnfcjdjamaaaW.PrintWords Go.Proofs.YtanlnfcjdjamaaaW.PrintLast Go.Proofs.YtanlnfcjdjamaaaW.PrintMore
attribute [local go_sem] max2_int min2_int max_two min_two max_three min_three max_four min_four   -- for this text's walks alone
set_option linter.unusedVariables false
set_option linter.unusedSimpArgs false
def larchlaw06_few.f (l0 : List (S25)) : Option ((List (S25))) := (some (([] : List (S25)) : List (S25))).bind fun y199 => (if 0 ≤ (mn (l0.length : Int) 300) then (if (mn (l0.length : Int) 300) ≤ (l0.length : Int) then ((some (l0.take ((mn (l0.length : Int) 300) : Int).toNat : List (S25))).bind fun y202 => (if y199.length + y202.length < 4398046511104 then (some (y199 ++ y202)) else (none))) else (none)) else (none))
set_option maxHeartbeats 8000000 in
set_option maxRecDepth 100000 in
theorem larchlaw06_few.calls (A0 : Option Addr) (c0 : Nat) (l0 : List (S25)) (r : List (S25)) (w : World) (hr0 : Kd.C k25 w A0 l0.length l0) (hc0 : l0.length ≤ c0) (h : larchlaw06_few.f l0 = some r) :
  Calls Try.prog 15 #[.slice A0 l0.length c0] w fun e w' => ∃ v0_ : Value, e = .returned (v0_) ∧ Kd.R k25 25 w' w.heap.size (fun _ => True) v0_ r ∧ Below w.heap.size w w' := by
 have HR0 := asd hr0
 have HC0 := asd hc0
 clear hr0 hc0
 have HB := asd (Below.refl w.heap.size w)
 have H : ((some (([] : List (S25)) : List (S25))).bind fun y199 => (if 0 ≤ (mn (l0.length : Int) 300) then (if (mn (l0.length : Int) 300) ≤ (l0.length : Int) then ((some (l0.take ((mn (l0.length : Int) 300) : Int).toNat : List (S25))).bind fun y202 => (if y199.length + y202.length < 4398046511104 then (some (y199 ++ y202)) else (none))) else (none)) else (none))) = some r := h
 clear h
 obtain ⟨y199, hy199⟩ : ∃ y_ : List (S25), y_ = (([] : List (S25))) := ⟨_, rfl⟩
 replace H : (if 0 ≤ (mn (l0.length : Int) 300) then (if (mn (l0.length : Int) 300) ≤ (l0.length : Int) then ((some (l0.take ((mn (l0.length : Int) 300) : Int).toNat : List (S25))).bind fun y202 => (if y199.length + y202.length < 4398046511104 then (some (y199 ++ y202)) else (none))) else (none)) else (none)) = some r := by first | (rw [hy199]; with_reducible exact H) | (have H2_ := (Option.bind_some _ _).symm.trans H; rw [hy199]; with_reducible exact H2_) | (have H2_ := (Option.bind_some _ _).symm.trans H; with_reducible exact H2_) | with_reducible exact H | (rw [hy199]; exact H) | exact H
 have Ny199 := asd hy199
 clear hy199
 obtain ⟨ji2, hji2⟩ : ∃ j_ : Int, (mn (l0.length : Int) 300) = j_ := ⟨_, rfl⟩
 replace H : (if 0 ≤ (ji2) then (if (ji2) ≤ (l0.length : Int) then ((some (l0.take ((ji2) : Int).toNat : List (S25))).bind fun y202 => (if y199.length + y202.length < 4398046511104 then (some (y199 ++ y202)) else (none))) else (none)) else (none)) = some r := by first | (rw [hji2] at H; exact H) | (simp only [hji2] at H ⊢; exact H)
 (try (have hji2h : ji2 ≤ 300 := by (rw [← hji2]; unfold mn; (repeat' split) <;> omega)))
 (try (have hji2g : ji2 ≤ 64 := by omega))
 (try (have hji2l : 0 ≤ ji2 := by (rw [← hji2]; unfold mn; (repeat' split) <;> omega)))
 (try (have hji2m : 0 ≤ ji2 := by omega))
 have hji2_ : (if 300 < (l0.length : Int) then 300 else (l0.length : Int)) = ji2 := hji2
 by_cases c3 : 0 ≤ (ji2)
 ·
  rw [if_pos c3] at H
  have c3b0 := eq_true c3
  have c3b1 : decide (0 ≤ (ji2)) = true := decide_eq_true c3
  clear c3
  by_cases c4 : (ji2) ≤ (l0.length : Int)
  ·
   rw [if_pos c4] at H
   have c4b0 := eq_true c4
   have c4b1 : decide ((ji2) ≤ (l0.length : Int)) = true := decide_eq_true c4
   clear c4
   obtain ⟨y202, hy202⟩ : ∃ y_ : List (S25), y_ = (l0.take ((ji2) : Int).toNat) := ⟨_, rfl⟩
   replace H : (if y199.length + y202.length < 4398046511104 then (some (y199 ++ y202)) else (none)) = some r := by first | (rw [hy202]; with_reducible exact H) | (have H2_ := (Option.bind_some _ _).symm.trans H; rw [hy202]; with_reducible exact H2_) | (have H2_ := (Option.bind_some _ _).symm.trans H; with_reducible exact H2_) | with_reducible exact H | (rw [hy202]; exact H) | exact H
   have Ny202 := asd hy202
   clear hy202
   by_cases c5 : y199.length + y202.length < 4398046511104
   ·
    rw [if_pos c5] at H
    have LMc5 := asd c5
    clear c5
    obtain ⟨y206, hy206⟩ : ∃ y_ : List (S25), y_ = (y199 ++ y202) := ⟨_, rfl⟩
    replace H : (some y206) = some r := by first | (rw [hy206]; with_reducible exact H) | (have H2_ := (Option.bind_some _ _).symm.trans H; rw [hy206]; with_reducible exact H2_) | (have H2_ := (Option.bind_some _ _).symm.trans H; with_reducible exact H2_) | with_reducible exact H | (rw [hy206]; exact H) | exact H
    have Ny206 := asd hy206
    clear hy206
    obtain rfl := Option.some.inj H
    go_enter Try.func15, Try.ntmps15
    go_wp2_with (first | ((with_reducible refine gate_dst (N := 3) rfl ?_); refine Kd.R_lit k25 _ 25 ?hg (N := 3) ?hd (xs := ([] : List (S25))) (inner := []) (ok := fun _ => True) (okp := fun _ => True) ?hr ?hp (fun _ hk => hk) trivial (Below.refl _ _) (Nat.le_refl _) (by simp) ?_; (case hd => rfl); (case hg => rfl); (case hr => first | (go_simp; done) | (go_simp; rfl)); (case hp => exact (Reps.none _ _)); intro v200 w6 ho7 hb hg_ hnew_; clear hg_ hnew_; (first | rw [← Ny199.out] at ho7 | (simp only [Int.reduceToNat] at ho7; rw [← Ny199.out] at ho7)); have n0_ := asd (Kd.R_lower ho7 (below_size (skB HB.out))); have n1_ := asd (below_step (skB HB.out) hb); clear HB; have HO201 := n0_; have HB := n1_; clear n0_ n1_; clear hb ho7; have q8 : ((ji2) : Int) ≤ ((l0.length : Int) : Int) := dt; obtain ⟨i08, hi08, _, hsz8, _⟩ := info_parts info25; have hroom8 : l0.length ≤ c0 := HC0.out; have hC8 : Kd.C k25 _ A0 l0.length l0 := HR0.out; have hcut8 := cut_to (P := Try.prog) 23 25 .i64 Try.underlying23 hi08 A0 l0.length c0 (ji2) dt q8 hroom8; have hr8 := Kd.C_take (m := ((ji2) : Int).toNat) hC8 (by omega); have hy8 : y202.length = ((ji2) : Int).toNat := (by rw [Ny202.out, List.length_take]; omega); rw [← Ny202.out] at hr8; rw [← hy8] at hcut8; have HR205 := asd hr8; have HC205 := asd (show y202.length ≤ c0 from by omega); clear hr8 hC8 hroom8 hi08 hsz8; have KY8 := asd hy8; clear hy8; replace q8 := eq_true q8) | ((with_reducible refine gate_builtin (b := .append) (xs := #[.tmp 3, .tmp 8]) rfl ?_); at_builtin; refine Kd.R_append_rows k25 (w0 := w) w.heap.size rfl (.tmp 3) (.tmp 8) 23 25 (.agg #[(.int .i64 0), (.int .i64 0), (.int .i64 0), (.int .i64 0)]) 32 rfl Try.underlying23 info25 rfl (by decide) (by omega) v200 y199 y202 _ _ _ (fun _ => True) (fun _ => False) rfl rfl ?aO ?aR (fun _ _ h => h) (fun _ h => h.elim) ?aF ?aB ?aS ?aL ?_; (case aR => exact skC (Kd.C_below HR205.out HB.out)); (case aB => exact (skB HB.out)); (case aF => exact (fun _ _ => trivial)); (case aO => exact (skR HO201.out)); (case aS => exact (below_size (skB HB.out))); (case aL => have := LMc5.out; omega); intro v207 w9 ho hb hg hat; rw [← Ny206.out] at ho; have n0_ := asd (hb); have n1_ := asd (ho); clear HB; clear HO201; have HB := n0_; have HO208 := n1_; clear n0_ n1_; clear ho hb hg hat))
    go_ret
    exact ⟨_, by first | rfl | (simp [errW_none, errW_some] <;> rfl) | (simp only [← hji2]; first | rfl | (simp [errW_none, errW_some] <;> rfl)) | (simp [*, errW_none, errW_some] <;> rfl), skR HO208.out, skB HB.out⟩
   ·
    rw [if_neg c5] at H
    exact absurd H (by simp)
  ·
   rw [if_neg c4] at H
   exact absurd H (by simp)
 ·
  rw [if_neg c3] at H
  exact absurd H (by simp)
end Go.Proofs.Ytanlnfcjdjamaaa.P
/- F27 -/
namespace Go.Proofs.Ytanlnfcjdjamaaa.P
open Go.RowKit Go.Proofs.YtanlnfcjdjamaaaW.PrintWords Go.Proofs.YtanlnfcjdjamaaaW.PrintLast Go.Proofs.YtanlnfcjdjamaaaW.PrintMore
attribute [local go_sem] max2_int min2_int max_two min_two max_three min_three max_four min_four   -- for this text's walks alone
set_option linter.unusedVariables false
set_option linter.unusedSimpArgs false
def larchlaw06_copied.f (l0 : List (S51)) : Option ((List (S51))) := (some (([] : List (S51)) : List (S51))).bind fun y209 => (if y209.length + l0.length < 8796093022208 then (some (y209 ++ l0)) else (none))
set_option maxHeartbeats 8000000 in
set_option maxRecDepth 100000 in
theorem larchlaw06_copied.calls (A0 : Option Addr) (c0 : Nat) (l0 : List (S51)) (r : List (S51)) (w : World) (hr0 : Kd.C k51 w A0 l0.length l0) (hc0 : l0.length ≤ c0) (h : larchlaw06_copied.f l0 = some r) :
  Calls Try.prog 10 #[.slice A0 l0.length c0] w fun e w' => ∃ v0_ : Value, e = .returned (v0_) ∧ Kd.R k51 51 w' w.heap.size (fun _ => True) v0_ r ∧ Below w.heap.size w w' := by
 have HR0 := asd hr0
 have HC0 := asd hc0
 clear hr0 hc0
 have HB := asd (Below.refl w.heap.size w)
 have H : ((some (([] : List (S51)) : List (S51))).bind fun y209 => (if y209.length + l0.length < 8796093022208 then (some (y209 ++ l0)) else (none))) = some r := h
 clear h
 obtain ⟨y209, hy209⟩ : ∃ y_ : List (S51), y_ = (([] : List (S51))) := ⟨_, rfl⟩
 replace H : (if y209.length + l0.length < 8796093022208 then (some (y209 ++ l0)) else (none)) = some r := by first | (rw [hy209]; with_reducible exact H) | (have H2_ := (Option.bind_some _ _).symm.trans H; rw [hy209]; with_reducible exact H2_) | (have H2_ := (Option.bind_some _ _).symm.trans H; with_reducible exact H2_) | with_reducible exact H | (rw [hy209]; exact H) | exact H
 have Ny209 := asd hy209
 clear hy209
 by_cases c2 : y209.length + l0.length < 8796093022208
 ·
  rw [if_pos c2] at H
  have LMc2 := asd c2
  clear c2
  obtain ⟨y212, hy212⟩ : ∃ y_ : List (S51), y_ = (y209 ++ l0) := ⟨_, rfl⟩
  replace H : (some y212) = some r := by first | (rw [hy212]; with_reducible exact H) | (have H2_ := (Option.bind_some _ _).symm.trans H; rw [hy212]; with_reducible exact H2_) | (have H2_ := (Option.bind_some _ _).symm.trans H; with_reducible exact H2_) | with_reducible exact H | (rw [hy212]; exact H) | exact H
  have Ny212 := asd hy212
  clear hy212
  obtain rfl := Option.some.inj H
  go_enter Try.func10, Try.ntmps10
  go_wp2_with (first | ((with_reducible refine gate_dst (N := 3) rfl ?_); refine Kd.R_lit k51 _ 51 ?hg (N := 3) ?hd (xs := ([] : List (S51))) (inner := []) (ok := fun _ => True) (okp := fun _ => True) ?hr ?hp (fun _ hk => hk) trivial (Below.refl _ _) (Nat.le_refl _) (by simp) ?_; (case hd => rfl); (case hg => rfl); (case hr => first | (go_simp; done) | (go_simp; rfl)); (case hp => exact (Reps.none _ _)); intro v210 w3 ho4 hb hg_ hnew_; clear hg_ hnew_; (first | rw [← Ny209.out] at ho4 | (simp only [Int.reduceToNat] at ho4; rw [← Ny209.out] at ho4)); have n0_ := asd (Kd.R_lower ho4 (below_size (skB HB.out))); have n1_ := asd (below_step (skB HB.out) hb); clear HB; have HO211 := n0_; have HB := n1_; clear n0_ n1_; clear hb ho4) | ((with_reducible refine gate_builtin (b := .append) (xs := #[.tmp 3, .tmp 4]) rfl ?_); at_builtin; refine Kd.R_append_rows k51 (w0 := w) w.heap.size rfl (.tmp 3) (.tmp 4) 22 51 (.agg #[(.int .i64 0), (.int .i64 0)]) 16 rfl Try.underlying22 info51 rfl (by decide) (by omega) v210 y209 l0 _ _ _ (fun _ => True) (fun _ => False) rfl rfl ?aO ?aR (fun _ _ h => h) (fun _ h => h.elim) ?aF ?aB ?aS ?aL ?_; (case aR => exact skC (Kd.C_below HR0.out HB.out)); (case aB => exact (skB HB.out)); (case aF => exact (fun _ _ => trivial)); (case aO => exact (skR HO211.out)); (case aS => exact (below_size (skB HB.out))); (case aL => have := LMc2.out; omega); intro v213 w5 ho hb hg hat; rw [← Ny212.out] at ho; have n0_ := asd (hb); have n1_ := asd (ho); clear HB; clear HO211; have HB := n0_; have HO214 := n1_; clear n0_ n1_; clear ho hb hg hat))
  go_ret
  exact ⟨_, re, skR HO214.out, skB HB.out⟩
 ·
  rw [if_neg c2] at H
  exact absurd H (by simp)
end Go.Proofs.Ytanlnfcjdjamaaa.P
