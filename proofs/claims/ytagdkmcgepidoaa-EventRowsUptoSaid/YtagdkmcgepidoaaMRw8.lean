/- P.eventRows_holds, part 9 of 25: the contracts of the Go functions that the law calls, its own walk, and its plain law, for every input that the statement speaks of. -/
import Derived.Test.YtagdkmcgepidoaaMRw2
import Derived.Test.YtagdkmcgepidoaaMRw6
import Derived.Test.YtagdkmcgepidoaaMRw1
import Derived.Test.YtagdkmcgepidoaaMRw4
set_option linter.unusedVariables false
set_option linter.unusedSimpArgs false
/- F6 -/
namespace Go.Proofs.Ytagdkmcgepidoaa.P
open Go.RowKit Go.Proofs.YtagdkmcgepidoaaW.PrintWords Go.Proofs.YtagdkmcgepidoaaW.PrintLast Go.Proofs.YtagdkmcgepidoaaW.PrintMore
attribute [local go_sem] max2_int min2_int max_two min_two max_three min_three max_four min_four   -- for this text's walks alone
set_option linter.unusedVariables false
set_option linter.unusedSimpArgs false
def event_own.f (a0_0 : Int) (a0_1 : Bool) (a0_2 : Int) (a0_3 : Int) (a0_4 : Int) (a0_5 : Int) (a0_6 : Bool) (a0_7 : Int) (a0_8 : Int) (l0_9 : List (S70)) : Option (Int × Bool × Int × Int × Int × Int × Bool × Int × Int × (List (S70))) := (api_Pair_73.f l0_9).bind fun t104 => (some (a0_0, a0_1, a0_2, a0_3, a0_4, a0_5, a0_6, a0_7, a0_8, t104))
set_option maxHeartbeats 8000000 in
set_option maxRecDepth 100000 in
theorem event_own.calls (a0_0 : Int) (a0_1 : Bool) (a0_2 : Int) (a0_3 : Int) (a0_4 : Int) (a0_5 : Int) (a0_6 : Bool) (a0_7 : Int) (a0_8 : Int) (A0_9 : Option Addr) (c0_9 : Nat) (l0_9 : List (S70)) (r1 : Int) (r2 : Bool) (r3 : Int) (r4 : Int) (r5 : Int) (r6 : Int) (r7 : Bool) (r8 : Int) (r9 : Int) (r10 : List (S70)) (w : World) (hr0_9 : Kd.C k70 w A0_9 l0_9.length l0_9) (hc0_9 : l0_9.length ≤ c0_9) (h : event_own.f a0_0 a0_1 a0_2 a0_3 a0_4 a0_5 a0_6 a0_7 a0_8 l0_9 = some (r1, r2, r3, r4, r5, r6, r7, r8, r9, r10)) :
  Calls Try.prog 67 #[.agg #[.int .i64 a0_0, .bool a0_1, .int .i64 a0_2, .int .i64 a0_3, .int .i64 a0_4, .int .i64 a0_5, .bool a0_6, .int .i64 a0_7, .int .i64 a0_8, .slice A0_9 l0_9.length c0_9]] w fun e w' => ∃ v9_ : Value, e = .returned (.agg #[.int .i64 r1, .bool r2, .int .i64 r3, .int .i64 r4, .int .i64 r5, .int .i64 r6, .bool r7, .int .i64 r8, .int .i64 r9, v9_]) ∧ Kd.R k70 70 w' w.heap.size (fun _ => True) v9_ r10 ∧ Below w.heap.size w w' := by
 have hu67 := Try.underlying67
 have HR0_9 := asd hr0_9
 have HC0_9 := asd hc0_9
 clear hr0_9 hc0_9
 have HB := asd (Below.refl w.heap.size w)
 have H : ((api_Pair_73.f l0_9).bind fun t104 => (some (a0_0, a0_1, a0_2, a0_3, a0_4, a0_5, a0_6, a0_7, a0_8, t104))) = some (r1, r2, r3, r4, r5, r6, r7, r8, r9, r10) := h
 clear h
 replace H := Option.bind_eq_some_iff.mp H
 obtain ⟨t104, A20, H⟩ := H
 replace H : (some (a0_0, a0_1, a0_2, a0_3, a0_4, a0_5, a0_6, a0_7, a0_8, t104)) = some (r1, r2, r3, r4, r5, r6, r7, r8, r9, r10) := H
 have A2 := asd A20
 clear A20
 simp only [Option.some.injEq, Prod.mk.injEq] at H
 obtain ⟨rfl, rfl, rfl, rfl, rfl, rfl, rfl, rfl, rfl, rfl⟩ := H
 go_enter Try.func67, Try.ntmps67
 go_wp2_with (first | ((with_reducible refine gate_dst (N := 1) rfl ?_); refine box_event ?hg (N := 1) ?hd (cs := #[.int .i64 a0_0, .bool a0_1, .int .i64 a0_2, .int .i64 a0_3, .int .i64 a0_4, .int .i64 a0_5, .bool a0_6, .int .i64 a0_7, .int .i64 a0_8, .slice A0_9 l0_9.length c0_9]) (t := 67) ?hr ?_; (case hd => rfl); (case hg => rfl); (case hr => first | (go_simp; done) | (go_simp; rfl)); intro gb102 hg w3 hbox hb; have n0_ := asd (below_step (skB HB.out) hb); have n1_ := asd (hbox); have n2_ := asd ((by rw [hg]; exact (below_size (skB HB.out)) : w.heap.size ≤ gb102)); have n3_ := asd ((by rw [hg]; exact (below_size (skB HB.out)) : w.heap.size ≤ gb102)); clear HB; have HB := n0_; have BK102 := n1_; have GW102 := n2_; have GE102 := n3_; clear n0_ n1_ n2_ n3_; clear hb hbox hg) | ((with_reducible refine gate_dst (N := 2) rfl ?_); refine box_event ?hg (N := 2) ?hd (cs := #[.int .i64 0, .bool false, .int .i64 0, .int .i64 0, .int .i64 0, .int .i64 0, .bool false, .int .i64 0, .int .i64 0, .slice none 0 0]) (t := 67) ?hr ?_; (case hd => rfl); (case hg => rfl); (case hr => first | (go_simp; done) | (go_simp; rfl)); intro gb103 hg w4 hbox hb; have n0_ := asd (blk_below (g := gb102) (o := .cells #[.int .i64 a0_0, .bool a0_1, .int .i64 a0_2, .int .i64 a0_3, .int .i64 a0_4, .int .i64 a0_5, .bool a0_6, .int .i64 a0_7, .int .i64 a0_8, .slice A0_9 l0_9.length c0_9] 67 (0, 0)) (skK BK102.out) hb); have n1_ := asd (below_step (skG HB.out GE102.out GE102.out) hb); have n2_ := asd (hbox); have n3_ := asd ((by rw [hg]; exact (below_size (skG HB.out GE102.out GE102.out)) : w.heap.size ≤ gb103)); have n4_ := asd ((by rw [hg]; exact (below_size (skG HB.out GE102.out GE102.out)) : w.heap.size ≤ gb103)); have n5_ := asd ((by rw [hg]; exact Nat.ne_of_lt (blk_lt (g := gb102) (o := .cells #[.int .i64 a0_0, .bool a0_1, .int .i64 a0_2, .int .i64 a0_3, .int .i64 a0_4, .int .i64 a0_5, .bool a0_6, .int .i64 a0_7, .int .i64 a0_8, .slice A0_9 l0_9.length c0_9] 67 (0, 0)) (skK BK102.out)) : gb102 ≠ gb103)); have n6_ := asd ((by rw [hg]; exact Nat.ne_of_gt (blk_lt (g := gb102) (o := .cells #[.int .i64 a0_0, .bool a0_1, .int .i64 a0_2, .int .i64 a0_3, .int .i64 a0_4, .int .i64 a0_5, .bool a0_6, .int .i64 a0_7, .int .i64 a0_8, .slice A0_9 l0_9.length c0_9] 67 (0, 0)) (skK BK102.out)) : gb103 ≠ gb102)); clear BK102; clear HB; have BK102 := n0_; have HB := n1_; have BK103 := n2_; have GW103 := n3_; have GE103 := n4_; have NB102_103 := n5_; have NB103_102 := n6_; clear n0_ n1_ n2_ n3_ n4_ n5_ n6_; clear hb hbox hg; have hnb5 := NB102_103.out; have hnc5 := NB103_102.out; have hcz6_0 : w4.cell? ⟨gb102, 0, none⟩ = some (.int .i64 a0_0) := (blk_cell BK102.out 0).trans rfl; have hcz6_1 : w4.cell? ⟨gb102, 1, none⟩ = some (.bool a0_1) := (blk_cell BK102.out 1).trans rfl; have hcz6_2 : w4.cell? ⟨gb102, 2, none⟩ = some (.int .i64 a0_2) := (blk_cell BK102.out 2).trans rfl; have hcz6_3 : w4.cell? ⟨gb102, 3, none⟩ = some (.int .i64 a0_3) := (blk_cell BK102.out 3).trans rfl; have hcz6_4 : w4.cell? ⟨gb102, 4, none⟩ = some (.int .i64 a0_4) := (blk_cell BK102.out 4).trans rfl; have hcz6_5 : w4.cell? ⟨gb102, 5, none⟩ = some (.int .i64 a0_5) := (blk_cell BK102.out 5).trans rfl; have hcz6_6 : w4.cell? ⟨gb102, 6, none⟩ = some (.bool a0_6) := (blk_cell BK102.out 6).trans rfl; have hcz6_7 : w4.cell? ⟨gb102, 7, none⟩ = some (.int .i64 a0_7) := (blk_cell BK102.out 7).trans rfl; have hcz6_8 : w4.cell? ⟨gb102, 8, none⟩ = some (.int .i64 a0_8) := (blk_cell BK102.out 8).trans rfl; have hcz6_9 : w4.cell? ⟨gb102, 9, none⟩ = some (.slice A0_9 l0_9.length c0_9) := (blk_cell BK102.out 9).trans rfl; have hfz6_0 := blk_frozen BK102.out 0; have hfz6_1 := blk_frozen BK102.out 1; have hfz6_2 := blk_frozen BK102.out 2; have hfz6_3 := blk_frozen BK102.out 3; have hfz6_4 := blk_frozen BK102.out 4; have hfz6_5 := blk_frozen BK102.out 5; have hfz6_6 := blk_frozen BK102.out 6; have hfz6_7 := blk_frozen BK102.out 7; have hfz6_8 := blk_frozen BK102.out 8; have hfz6_9 := blk_frozen BK102.out 9) | ((with_reducible refine gate_callee (f := 73) rfl ?_); refine goesL_ (some 6) rfl rfl Try.func73 (by kernel_rfl) rfl #[.slice A0_9 l0_9.length c0_9] rfl ags ?_; (with_reducible refine (api_Pair_73.calls _ _ l0_9 t104 _ ?side1 ?side2 A2.out).mono ?_); (case side1 => exact skC (Kd.C_below HR0_9.out HB.out)); (case side2 => exact HC0_9.out); rintro e w7 ⟨v105, rfl, ho0, hb⟩; refine ⟨_, rfl, ?_⟩; have n0_ := asd (Kd.R_lower ho0 (below_size (skG HB.out GE102.out GE103.out))); have n1_ := asd (blk_below (g := gb102) (o := .cells #[.int .i64 a0_0, .bool a0_1, .int .i64 a0_2, .int .i64 a0_3, .int .i64 a0_4, .int .i64 a0_5, .bool a0_6, .int .i64 a0_7, .int .i64 a0_8, .slice A0_9 l0_9.length c0_9] 67 (0, 0)) (skK BK102.out) hb); have n2_ := asd (blk_below (g := gb103) (o := .cells #[.int .i64 0, .bool false, .int .i64 0, .int .i64 0, .int .i64 0, .int .i64 0, .bool false, .int .i64 0, .int .i64 0, .slice none 0 0] 67 (0, 0)) (skK BK103.out) hb); have n3_ := asd (below_step (skG HB.out GE102.out GE103.out) hb); clear BK102; clear BK103; clear HB; have HO106 := n0_; have BK102 := n1_; have BK103 := n2_; have HB := n3_; clear n0_ n1_ n2_ n3_; (try clear hb); (try clear hb2); (try clear hk); (try clear hi); (try clear ho0); obtain ⟨Ao8, co8, eo8⟩ := Kd.R_slice HO106.out; subst eo8; have hcz9_0 : w7.cell? ⟨gb102, 0, none⟩ = some (.int .i64 a0_0) := (blk_cell BK102.out 0).trans rfl; have hcz9_1 : w7.cell? ⟨gb102, 1, none⟩ = some (.bool a0_1) := (blk_cell BK102.out 1).trans rfl; have hcz9_2 : w7.cell? ⟨gb102, 2, none⟩ = some (.int .i64 a0_2) := (blk_cell BK102.out 2).trans rfl; have hcz9_3 : w7.cell? ⟨gb102, 3, none⟩ = some (.int .i64 a0_3) := (blk_cell BK102.out 3).trans rfl; have hcz9_4 : w7.cell? ⟨gb102, 4, none⟩ = some (.int .i64 a0_4) := (blk_cell BK102.out 4).trans rfl; have hcz9_5 : w7.cell? ⟨gb102, 5, none⟩ = some (.int .i64 a0_5) := (blk_cell BK102.out 5).trans rfl; have hcz9_6 : w7.cell? ⟨gb102, 6, none⟩ = some (.bool a0_6) := (blk_cell BK102.out 6).trans rfl; have hcz9_7 : w7.cell? ⟨gb102, 7, none⟩ = some (.int .i64 a0_7) := (blk_cell BK102.out 7).trans rfl; have hcz9_8 : w7.cell? ⟨gb102, 8, none⟩ = some (.int .i64 a0_8) := (blk_cell BK102.out 8).trans rfl; have hcz9_9 : w7.cell? ⟨gb102, 9, none⟩ = some (.slice A0_9 l0_9.length c0_9) := (blk_cell BK102.out 9).trans rfl; have hfz9_0 := blk_frozen BK102.out 0; have hfz9_1 := blk_frozen BK102.out 1; have hfz9_2 := blk_frozen BK102.out 2; have hfz9_3 := blk_frozen BK102.out 3; have hfz9_4 := blk_frozen BK102.out 4; have hfz9_5 := blk_frozen BK102.out 5; have hfz9_6 := blk_frozen BK102.out 6; have hfz9_7 := blk_frozen BK102.out 7; have hfz9_8 := blk_frozen BK102.out 8; have hfz9_9 := blk_frozen BK102.out 9; have hcz10_0 : w7.cell? ⟨gb103, 0, none⟩ = some (.int .i64 0) := (blk_cell BK103.out 0).trans rfl; have hcz10_1 : w7.cell? ⟨gb103, 1, none⟩ = some (.bool false) := (blk_cell BK103.out 1).trans rfl; have hcz10_2 : w7.cell? ⟨gb103, 2, none⟩ = some (.int .i64 0) := (blk_cell BK103.out 2).trans rfl; have hcz10_3 : w7.cell? ⟨gb103, 3, none⟩ = some (.int .i64 0) := (blk_cell BK103.out 3).trans rfl; have hcz10_4 : w7.cell? ⟨gb103, 4, none⟩ = some (.int .i64 0) := (blk_cell BK103.out 4).trans rfl; have hcz10_5 : w7.cell? ⟨gb103, 5, none⟩ = some (.int .i64 0) := (blk_cell BK103.out 5).trans rfl; have hcz10_6 : w7.cell? ⟨gb103, 6, none⟩ = some (.bool false) := (blk_cell BK103.out 6).trans rfl; have hcz10_7 : w7.cell? ⟨gb103, 7, none⟩ = some (.int .i64 0) := (blk_cell BK103.out 7).trans rfl; have hcz10_8 : w7.cell? ⟨gb103, 8, none⟩ = some (.int .i64 0) := (blk_cell BK103.out 8).trans rfl; have hcz10_9 : w7.cell? ⟨gb103, 9, none⟩ = some (.slice none 0 0) := (blk_cell BK103.out 9).trans rfl; have hfz10_0 := blk_frozen BK103.out 0; have hfz10_1 := blk_frozen BK103.out 1; have hfz10_2 := blk_frozen BK103.out 2; have hfz10_3 := blk_frozen BK103.out 3; have hfz10_4 := blk_frozen BK103.out 4; have hfz10_5 := blk_frozen BK103.out 5; have hfz10_6 := blk_frozen BK103.out 6; have hfz10_7 := blk_frozen BK103.out 7; have hfz10_8 := blk_frozen BK103.out 8; have hfz10_9 := blk_frozen BK103.out 9))
 refine bodyPost_ret (results_cell_row rfl _ _ gb103 67 #[.int .i64 a0_0, .bool a0_1, .int .i64 a0_2, .int .i64 a0_3, .int .i64 a0_4, .int .i64 a0_5, .bool a0_6, .int .i64 a0_7, .int .i64 a0_8, .slice Ao8 t104.length co8] (0, 0) _ rfl (by refine skk ?_; refine blk_put (cs := #[.int .i64 a0_0, .bool a0_1, .int .i64 a0_2, .int .i64 a0_3, .int .i64 a0_4, .int .i64 a0_5, .bool a0_6, .int .i64 a0_7, .int .i64 a0_8, .slice none 0 0]) ?_ 9 _ rfl; refine skk ?_; refine blk_put (cs := #[.int .i64 a0_0, .bool a0_1, .int .i64 a0_2, .int .i64 a0_3, .int .i64 a0_4, .int .i64 a0_5, .bool a0_6, .int .i64 a0_7, .int .i64 0, .slice none 0 0]) ?_ 8 _ rfl; refine skk ?_; refine blk_put (cs := #[.int .i64 a0_0, .bool a0_1, .int .i64 a0_2, .int .i64 a0_3, .int .i64 a0_4, .int .i64 a0_5, .bool a0_6, .int .i64 0, .int .i64 0, .slice none 0 0]) ?_ 7 _ rfl; refine skk ?_; refine blk_put (cs := #[.int .i64 a0_0, .bool a0_1, .int .i64 a0_2, .int .i64 a0_3, .int .i64 a0_4, .int .i64 a0_5, .bool false, .int .i64 0, .int .i64 0, .slice none 0 0]) ?_ 6 _ rfl; refine skk ?_; refine blk_put (cs := #[.int .i64 a0_0, .bool a0_1, .int .i64 a0_2, .int .i64 a0_3, .int .i64 a0_4, .int .i64 0, .bool false, .int .i64 0, .int .i64 0, .slice none 0 0]) ?_ 5 _ rfl; refine skk ?_; refine blk_put (cs := #[.int .i64 a0_0, .bool a0_1, .int .i64 a0_2, .int .i64 a0_3, .int .i64 0, .int .i64 0, .bool false, .int .i64 0, .int .i64 0, .slice none 0 0]) ?_ 4 _ rfl; refine skk ?_; refine blk_put (cs := #[.int .i64 a0_0, .bool a0_1, .int .i64 a0_2, .int .i64 0, .int .i64 0, .int .i64 0, .bool false, .int .i64 0, .int .i64 0, .slice none 0 0]) ?_ 3 _ rfl; refine skk ?_; refine blk_put (cs := #[.int .i64 a0_0, .bool a0_1, .int .i64 0, .int .i64 0, .int .i64 0, .int .i64 0, .bool false, .int .i64 0, .int .i64 0, .slice none 0 0]) ?_ 2 _ rfl; refine skk ?_; refine blk_put (cs := #[.int .i64 a0_0, .bool false, .int .i64 0, .int .i64 0, .int .i64 0, .int .i64 0, .bool false, .int .i64 0, .int .i64 0, .slice none 0 0]) ?_ 1 _ rfl; refine skk ?_; refine blk_put (cs := #[.int .i64 0, .bool false, .int .i64 0, .int .i64 0, .int .i64 0, .int .i64 0, .bool false, .int .i64 0, .int .i64 0, .slice none 0 0]) ?_ 0 _ rfl; refine skk ?_; refine blk_far ?_ NB103_102.out _; refine skk ?_; exact BK103.out) Try.underlying67 rfl (by kernel_rfl)) rfl ?_
 exact ⟨_, re, skR (Kd.R_mono (Kd.R_far (p := ⟨gb103, 9, none⟩) (Kd.R_far (p := ⟨gb103, 8, none⟩) (Kd.R_far (p := ⟨gb103, 7, none⟩) (Kd.R_far (p := ⟨gb103, 6, none⟩) (Kd.R_far (p := ⟨gb103, 5, none⟩) (Kd.R_far (p := ⟨gb103, 4, none⟩) (Kd.R_far (p := ⟨gb103, 3, none⟩) (Kd.R_far (p := ⟨gb103, 2, none⟩) (Kd.R_far (p := ⟨gb103, 1, none⟩) (Kd.R_far (p := ⟨gb103, 0, none⟩) (Kd.R_far (p := ⟨gb102, 9, none⟩) (Kd.R_types (Kd.R_types HO106.out BK102.out (by decide)) BK103.out (by decide)) (fun _ hk => hk.1.2) (.slice Ao8 t104.length co8)) (fun _ hk => hk.2) (.int .i64 a0_0)) (fun _ hk => hk.2) (.bool a0_1)) (fun _ hk => hk.2) (.int .i64 a0_2)) (fun _ hk => hk.2) (.int .i64 a0_3)) (fun _ hk => hk.2) (.int .i64 a0_4)) (fun _ hk => hk.2) (.int .i64 a0_5)) (fun _ hk => hk.2) (.bool a0_6)) (fun _ hk => hk.2) (.int .i64 a0_7)) (fun _ hk => hk.2) (.int .i64 a0_8)) (fun _ hk => hk.2) (.slice Ao8 t104.length co8)) (fun _ hk => trivial)), skG HB.out GE102.out GE103.out⟩
end Go.Proofs.Ytagdkmcgepidoaa.P
/- F16 -/
namespace Go.Proofs.Ytagdkmcgepidoaa.P
open Go.RowKit Go.Proofs.YtagdkmcgepidoaaW.PrintWords Go.Proofs.YtagdkmcgepidoaaW.PrintLast Go.Proofs.YtagdkmcgepidoaaW.PrintMore
attribute [local go_sem] max2_int min2_int max_two min_two max_three min_three max_four min_four   -- for this text's walks alone
set_option linter.unusedVariables false
set_option linter.unusedSimpArgs false
def event_Width.l0 : Nat → Int → Int → List (S67) → Int → Int → Option (Int × Int)
 | 0, _, _, _, _, _ => none
 | k + 1, x5, x6, x14, x15, x16 => if x16 < x15 then (if 0 ≤ x16 then (if x16 < (x14.length : Int) then (if (J67 x14 x16).f1 = true then (event_Width.l0 k (wrap64 (x5 - 1)) (mx x6 (wrap64 (x5 - 1))) x14 x15 (wrap64 (x16 + 1))) else (event_Width.l0 k (wrap64 (x5 + 1)) (mx x6 (wrap64 (x5 + 1))) x14 x15 (wrap64 (x16 + 1)))) else (none)) else (none)) else (some (x6, 0))
def event_Width.f (k : Nat) (l0 : List (S67)) : Option (Int × Int) := (event_Check.f l0).bind fun t135 => (if t135 = 0 then (event_Width.l0 k 0 0 l0 (l0.length : Int) 0) else (some (0, t135)))
set_option maxHeartbeats 8000000 in
set_option maxRecDepth 100000 in
theorem event_Width.calls (k : Nat) (A0 : Option Addr) (c0 : Nat) (l0 : List (S67)) (r1 : Int) (r2 : Int) (w : World) (hr0 : Kd.C k67 w A0 l0.length l0) (hc0 : l0.length ≤ c0) (h : event_Width.f k l0 = some (r1, r2)) :
  Calls Try.prog 25 #[.slice A0 l0.length c0] w fun e w' => e = .returned (.tuple #[.int .i64 r1, .int .i64 r2]) ∧ Below w.heap.size w w' := by
 have hu67 := Try.underlying67
 have HR0 := asd hr0
 have HC0 := asd hc0
 clear hr0 hc0
 have HB := asd (Below.refl w.heap.size w)
 have H : ((event_Check.f l0).bind fun t135 => (if t135 = 0 then (event_Width.l0 k 0 0 l0 (l0.length : Int) 0) else (some (0, t135)))) = some (r1, r2) := h
 clear h
 replace H := Option.bind_eq_some_iff.mp H
 obtain ⟨t135, A20, H⟩ := H
 replace H : (if t135 = 0 then (event_Width.l0 k 0 0 l0 (l0.length : Int) 0) else (some (0, t135))) = some (r1, r2) := H
 have A2 := asd A20
 clear A20
 by_cases c3 : t135 = 0
 ·
  rw [if_pos c3] at H
  have c3b0 : (t135 == 0) = true := beq_iff_eq.mpr c3
  have c3b1 : (t135 != 0) = false := bne_eq_false_iff_eq.mpr c3
  clear c3
  have H' := asd H
  clear H
  go_enter Try.func25, Try.ntmps25
  go_wp2_with (first | ((with_reducible refine gate_callee (f := 30) rfl ?_); refine goesL_ (some 10) rfl rfl Try.func30 (by kernel_rfl) rfl #[.slice A0 l0.length c0] rfl ags ?_; (with_reducible refine (event_Check.calls _ _ l0 t135 _ ?side1 ?side2 A2.out).mono ?_); (case side1 => exact skC HR0.out); (case side2 => exact HC0.out); rintro e w4 ⟨rfl, hb⟩; refine ⟨_, rfl, ?_⟩; have n0_ := asd (below_step (skB HB.out) hb); clear HB; have HB := n0_; clear n0_; (try clear hb); (try clear hb2); (try clear hk); (try clear hi)))
  go_loopg [5, 6, 16] k (fun kq v5 v6 v16 w' => ∃ (x5_1 : Int) (x6_1 : Int) (x16_1 : Int), v5 = .int .i64 x5_1 ∧ v6 = .int .i64 x6_1 ∧ v16 = .int .i64 x16_1 ∧ Aside0 (event_Width.l0 kq x5_1 x6_1 l0 (l0.length : Int) x16_1 = some (r1, r2)) ∧ Aside0 (kq ≤ k) ∧ Aside0 (Below w.heap.size w w'))
  case atStart => exact ⟨(0), (0), (0), rs, rs, rs, H', ⟨Nat.le_refl _⟩, ⟨skB HB.out⟩⟩
  case round =>
   clear H'
   try clear c2
   try clear p2
   try clear c3
   try clear c3b0
   try clear c3b1
   obtain ⟨x5_1, x6_1, x16_1, rfl, rfl, rfl, HA, HK1, HB⟩ := hrel
   cases gk with
   | zero => exact absurd HA.out (by simp [event_Width.l0])
   | succ k1 =>
    have H := HA.out
    clear HA
    simp only [event_Width.l0] at H
    by_cases c5 : x16_1 < (l0.length : Int)
    ·
     rw [if_pos c5] at H
     have c5b0 : decide (x16_1 < (l0.length : Int)) = true := decide_eq_true c5
     clear c5
     by_cases c6 : 0 ≤ x16_1
     ·
      rw [if_pos c6] at H
      have c6b0 : decide (0 ≤ x16_1) = true := decide_eq_true c6
      clear c6
      by_cases c7 : x16_1 < (l0.length : Int)
      ·
       rw [if_pos c7] at H
       have c7b0 : decide (x16_1 < (l0.length : Int)) = true := decide_eq_true c7
       clear c7
       obtain ⟨bq8, hbq8⟩ : ∃ b_ : Bool, b_ = ((J67 l0 x16_1).f1) := ⟨_, rfl⟩
       replace H : (if bq8 = true then (event_Width.l0 k1 (wrap64 (x5_1 - 1)) (mx x6_1 (wrap64 (x5_1 - 1))) l0 (l0.length : Int) (wrap64 (x16_1 + 1))) else (event_Width.l0 k1 (wrap64 (x5_1 + 1)) (mx x6_1 (wrap64 (x5_1 + 1))) l0 (l0.length : Int) (wrap64 (x16_1 + 1)))) = some (r1, r2) := by rw [← hbq8] at H; exact H
       have Nbq8 := asd hbq8
       clear hbq8
       by_cases c9 : bq8 = true
       ·
        subst c9
        have H1 : (event_Width.l0 k1 (wrap64 (x5_1 - 1)) (mx x6_1 (wrap64 (x5_1 - 1))) l0 (l0.length : Int) (wrap64 (x16_1 + 1))) = some (r1, r2) := by rw [if_pos rfl] at H; exact H
        clear H
        have H := H1
        clear H1
        obtain ⟨ji10, hji10⟩ : ∃ j_ : Int, (mx x6_1 (wrap64 (x5_1 - 1))) = j_ := ⟨_, rfl⟩
        replace H : (event_Width.l0 k1 (wrap64 (x5_1 - 1)) ji10 l0 (l0.length : Int) (wrap64 (x16_1 + 1))) = some (r1, r2) := by first | (rw [hji10] at H; exact H) | (simp only [hji10] at H ⊢; exact H)
        have hji10_ : (if x6_1 < (wrap64 (x5_1 - 1)) then (wrap64 (x5_1 - 1)) else x6_1) = ji10 := hji10
        have H' := asd H
        clear H
        have p136 : 0 ≤ (x16_1 : Int) := dt
        have q136 : x16_1 < (l0.length : Int) := dt
        obtain ⟨ad136, A136_9, c136_9, e136, hx136_0, hx136_1, hx136_2, hx136_3, hx136_4, hx136_5, hx136_6, hx136_7, hx136_8, hx136_9, hl136_9, hi136_9⟩ := at_T67 HR0.out x16_1 p136 q136
        (try rw [← Nbq8.out] at hx136_1)
        (try rw [← Nbq8.out] at hx136_6)
        cases e136
        replace hx136_0 := skc HB.out hx136_0
        replace hx136_1 := skc HB.out hx136_1
        replace hx136_2 := skc HB.out hx136_2
        replace hx136_3 := skc HB.out hx136_3
        replace hx136_4 := skc HB.out hx136_4
        replace hx136_5 := skc HB.out hx136_5
        replace hx136_6 := skc HB.out hx136_6
        replace hx136_7 := skc HB.out hx136_7
        replace hx136_8 := skc HB.out hx136_8
        replace hx136_9 := skc HB.out hx136_9
        have HR136_9 := asd hi136_9
        have HC136_9 := asd hl136_9
        clear hi136_9 hl136_9
        replace p136 := eq_true p136
        replace q136 := eq_true q136
        go_wp2_with (first | ((with_reducible refine gate_dst (N := 8) rfl ?_); refine box_event ?hg (N := 8) ?hd (cs := #[.int .i64 0, .bool false, .int .i64 0, .int .i64 0, .int .i64 0, .int .i64 0, .bool false, .int .i64 0, .int .i64 0, .slice none 0 0]) (t := 67) ?hr ?_; (case hd => rfl); (case hg => rfl); (case hr => first | (go_simp; done) | (go_simp; rfl)); intro gb137 hg w11 hbox hb; have n0_ := asd (below_step (skB HB.out) hb); have n1_ := asd (hbox); have n2_ := asd ((by rw [hg]; exact (below_size (skB HB.out)) : w.heap.size ≤ gb137)); have n3_ := asd ((by rw [hg]; exact (below_size (skB HB.out)) : w.heap.size ≤ gb137)); clear HB; have HB := n0_; have BK137 := n1_; have GW137 := n2_; have GE137 := n3_; clear n0_ n1_ n2_ n3_; clear hb hbox hg; have hcz12_0 : w11.cell? ⟨gb137, 0, none⟩ = some (.int .i64 0) := (blk_cell BK137.out 0).trans rfl; have hcz12_1 : w11.cell? ⟨gb137, 1, none⟩ = some (.bool false) := (blk_cell BK137.out 1).trans rfl; have hcz12_2 : w11.cell? ⟨gb137, 2, none⟩ = some (.int .i64 0) := (blk_cell BK137.out 2).trans rfl; have hcz12_3 : w11.cell? ⟨gb137, 3, none⟩ = some (.int .i64 0) := (blk_cell BK137.out 3).trans rfl; have hcz12_4 : w11.cell? ⟨gb137, 4, none⟩ = some (.int .i64 0) := (blk_cell BK137.out 4).trans rfl; have hcz12_5 : w11.cell? ⟨gb137, 5, none⟩ = some (.int .i64 0) := (blk_cell BK137.out 5).trans rfl; have hcz12_6 : w11.cell? ⟨gb137, 6, none⟩ = some (.bool false) := (blk_cell BK137.out 6).trans rfl; have hcz12_7 : w11.cell? ⟨gb137, 7, none⟩ = some (.int .i64 0) := (blk_cell BK137.out 7).trans rfl; have hcz12_8 : w11.cell? ⟨gb137, 8, none⟩ = some (.int .i64 0) := (blk_cell BK137.out 8).trans rfl; have hcz12_9 : w11.cell? ⟨gb137, 9, none⟩ = some (.slice none 0 0) := (blk_cell BK137.out 9).trans rfl; have hfz12_0 := blk_frozen BK137.out 0; have hfz12_1 := blk_frozen BK137.out 1; have hfz12_2 := blk_frozen BK137.out 2; have hfz12_3 := blk_frozen BK137.out 3; have hfz12_4 := blk_frozen BK137.out 4; have hfz12_5 := blk_frozen BK137.out 5; have hfz12_6 := blk_frozen BK137.out 6; have hfz12_7 := blk_frozen BK137.out 7; have hfz12_8 := blk_frozen BK137.out 8; have hfz12_9 := blk_frozen BK137.out 9))
        go_roundg k1
        case measure => have := HK1.out; omega
        case rel => exact ⟨(wrap64 (x5_1 - 1)), (ji10), (wrap64 (x16_1 + 1)), rs, (by first | rfl | (simp; done) | (simp only [← hji10] <;> (first | rfl | simp)) | (simp [*]; done)), rs, H', ⟨by have := HK1.out; omega⟩, ⟨skG HB.out GE137.out GE137.out⟩⟩
       ·
        replace c9 := Bool.eq_false_iff.mpr c9
        subst c9
        have H1 : (event_Width.l0 k1 (wrap64 (x5_1 + 1)) (mx x6_1 (wrap64 (x5_1 + 1))) l0 (l0.length : Int) (wrap64 (x16_1 + 1))) = some (r1, r2) := by rw [if_neg (show ¬ (false = true) by decide)] at H; exact H
        clear H
        have H := H1
        clear H1
        obtain ⟨ji13, hji13⟩ : ∃ j_ : Int, (mx x6_1 (wrap64 (x5_1 + 1))) = j_ := ⟨_, rfl⟩
        replace H : (event_Width.l0 k1 (wrap64 (x5_1 + 1)) ji13 l0 (l0.length : Int) (wrap64 (x16_1 + 1))) = some (r1, r2) := by first | (rw [hji13] at H; exact H) | (simp only [hji13] at H ⊢; exact H)
        have hji13_ : (if x6_1 < (wrap64 (x5_1 + 1)) then (wrap64 (x5_1 + 1)) else x6_1) = ji13 := hji13
        have H' := asd H
        clear H
        have p136 : 0 ≤ (x16_1 : Int) := dt
        have q136 : x16_1 < (l0.length : Int) := dt
        obtain ⟨ad136, A136_9, c136_9, e136, hx136_0, hx136_1, hx136_2, hx136_3, hx136_4, hx136_5, hx136_6, hx136_7, hx136_8, hx136_9, hl136_9, hi136_9⟩ := at_T67 HR0.out x16_1 p136 q136
        (try rw [← Nbq8.out] at hx136_1)
        (try rw [← Nbq8.out] at hx136_6)
        cases e136
        replace hx136_0 := skc HB.out hx136_0
        replace hx136_1 := skc HB.out hx136_1
        replace hx136_2 := skc HB.out hx136_2
        replace hx136_3 := skc HB.out hx136_3
        replace hx136_4 := skc HB.out hx136_4
        replace hx136_5 := skc HB.out hx136_5
        replace hx136_6 := skc HB.out hx136_6
        replace hx136_7 := skc HB.out hx136_7
        replace hx136_8 := skc HB.out hx136_8
        replace hx136_9 := skc HB.out hx136_9
        have HR136_9 := asd hi136_9
        have HC136_9 := asd hl136_9
        clear hi136_9 hl136_9
        replace p136 := eq_true p136
        replace q136 := eq_true q136
        go_wp2_with (first | ((with_reducible refine gate_dst (N := 8) rfl ?_); refine box_event ?hg (N := 8) ?hd (cs := #[.int .i64 0, .bool false, .int .i64 0, .int .i64 0, .int .i64 0, .int .i64 0, .bool false, .int .i64 0, .int .i64 0, .slice none 0 0]) (t := 67) ?hr ?_; (case hd => rfl); (case hg => rfl); (case hr => first | (go_simp; done) | (go_simp; rfl)); intro gb137 hg w14 hbox hb; have n0_ := asd (below_step (skB HB.out) hb); have n1_ := asd (hbox); have n2_ := asd ((by rw [hg]; exact (below_size (skB HB.out)) : w.heap.size ≤ gb137)); have n3_ := asd ((by rw [hg]; exact (below_size (skB HB.out)) : w.heap.size ≤ gb137)); clear HB; have HB := n0_; have BK137 := n1_; have GW137 := n2_; have GE137 := n3_; clear n0_ n1_ n2_ n3_; clear hb hbox hg; have hcz15_0 : w14.cell? ⟨gb137, 0, none⟩ = some (.int .i64 0) := (blk_cell BK137.out 0).trans rfl; have hcz15_1 : w14.cell? ⟨gb137, 1, none⟩ = some (.bool false) := (blk_cell BK137.out 1).trans rfl; have hcz15_2 : w14.cell? ⟨gb137, 2, none⟩ = some (.int .i64 0) := (blk_cell BK137.out 2).trans rfl; have hcz15_3 : w14.cell? ⟨gb137, 3, none⟩ = some (.int .i64 0) := (blk_cell BK137.out 3).trans rfl; have hcz15_4 : w14.cell? ⟨gb137, 4, none⟩ = some (.int .i64 0) := (blk_cell BK137.out 4).trans rfl; have hcz15_5 : w14.cell? ⟨gb137, 5, none⟩ = some (.int .i64 0) := (blk_cell BK137.out 5).trans rfl; have hcz15_6 : w14.cell? ⟨gb137, 6, none⟩ = some (.bool false) := (blk_cell BK137.out 6).trans rfl; have hcz15_7 : w14.cell? ⟨gb137, 7, none⟩ = some (.int .i64 0) := (blk_cell BK137.out 7).trans rfl; have hcz15_8 : w14.cell? ⟨gb137, 8, none⟩ = some (.int .i64 0) := (blk_cell BK137.out 8).trans rfl; have hcz15_9 : w14.cell? ⟨gb137, 9, none⟩ = some (.slice none 0 0) := (blk_cell BK137.out 9).trans rfl; have hfz15_0 := blk_frozen BK137.out 0; have hfz15_1 := blk_frozen BK137.out 1; have hfz15_2 := blk_frozen BK137.out 2; have hfz15_3 := blk_frozen BK137.out 3; have hfz15_4 := blk_frozen BK137.out 4; have hfz15_5 := blk_frozen BK137.out 5; have hfz15_6 := blk_frozen BK137.out 6; have hfz15_7 := blk_frozen BK137.out 7; have hfz15_8 := blk_frozen BK137.out 8; have hfz15_9 := blk_frozen BK137.out 9))
        go_roundg k1
        case measure => have := HK1.out; omega
        case rel => exact ⟨(wrap64 (x5_1 + 1)), (ji13), (wrap64 (x16_1 + 1)), rs, (by first | rfl | (simp; done) | (simp only [← hji13] <;> (first | rfl | simp)) | (simp [*]; done)), rs, H', ⟨by have := HK1.out; omega⟩, ⟨skG HB.out GE137.out GE137.out⟩⟩
      ·
       rw [if_neg c7] at H
       exact absurd H (by simp)
     ·
      rw [if_neg c6] at H
      exact absurd H (by simp)
    ·
     rw [if_neg c5] at H
     have c5b0 : decide (x16_1 < (l0.length : Int)) = false := decide_eq_false c5
     clear c5
     simp only [Option.some.injEq, Prod.mk.injEq] at H
     obtain ⟨rfl, rfl⟩ := H
     go_wp2
     go_ret2
     exact ⟨re, skB HB.out⟩
 ·
  rw [if_neg c3] at H
  have c3b0 : (t135 == 0) = false := beq_eq_false_iff_ne.mpr c3
  have c3b1 : (t135 != 0) = true := bne_iff_ne.mpr c3
  simp only [Option.some.injEq, Prod.mk.injEq] at H
  obtain ⟨rfl, rfl⟩ := H
  go_enter Try.func25, Try.ntmps25
  go_wp2_with (first | ((with_reducible refine gate_callee (f := 30) rfl ?_); refine goesL_ (some 10) rfl rfl Try.func30 (by kernel_rfl) rfl #[.slice A0 l0.length c0] rfl ags ?_; (with_reducible refine (event_Check.calls _ _ l0 t135 _ ?side1 ?side2 A2.out).mono ?_); (case side1 => exact skC HR0.out); (case side2 => exact HC0.out); rintro e w16 ⟨rfl, hb⟩; refine ⟨_, rfl, ?_⟩; have n0_ := asd (below_step (skB HB.out) hb); clear HB; have HB := n0_; clear n0_; (try clear hb); (try clear hb2); (try clear hk); (try clear hi)))
  go_ret2
  exact ⟨re, skB HB.out⟩
end Go.Proofs.Ytagdkmcgepidoaa.P
/- F17 -/
namespace Go.Proofs.Ytagdkmcgepidoaa.P
open Go.RowKit Go.Proofs.YtagdkmcgepidoaaW.PrintWords Go.Proofs.YtagdkmcgepidoaaW.PrintLast Go.Proofs.YtagdkmcgepidoaaW.PrintMore
attribute [local go_sem] max2_int min2_int max_two min_two max_three min_three max_four min_four   -- for this text's walks alone
set_option linter.unusedVariables false
set_option linter.unusedSimpArgs false
def event_Row.f (k : Nat) (l0 : List (S67)) : Option (Bool × Int) := (event_Width.f k l0).bind fun bt138 => (if bt138.2 = 0 then (some (decide (bt138.1 ≤ 1), bt138.2)) else (some (false, bt138.2)))
set_option maxHeartbeats 8000000 in
set_option maxRecDepth 100000 in
theorem event_Row.calls (k : Nat) (A0 : Option Addr) (c0 : Nat) (l0 : List (S67)) (r1 : Bool) (r2 : Int) (w : World) (hr0 : Kd.C k67 w A0 l0.length l0) (hc0 : l0.length ≤ c0) (h : event_Row.f k l0 = some (r1, r2)) :
  Calls Try.prog 15 #[.slice A0 l0.length c0] w fun e w' => e = .returned (.tuple #[.bool r1, .int .i64 r2]) ∧ Below w.heap.size w w' := by
 have HR0 := asd hr0
 have HC0 := asd hc0
 clear hr0 hc0
 have HB := asd (Below.refl w.heap.size w)
 have H : ((event_Width.f k l0).bind fun bt138 => (if bt138.2 = 0 then (some (decide (bt138.1 ≤ 1), bt138.2)) else (some (false, bt138.2)))) = some (r1, r2) := h
 clear h
 replace H := Option.bind_eq_some_iff.mp H
 obtain ⟨⟨t138, t139⟩, A20, H⟩ := H
 replace H : (if t139 = 0 then (some (decide (t138 ≤ 1), t139)) else (some (false, t139))) = some (r1, r2) := H
 have A2 := asd A20
 clear A20
 by_cases c3 : t139 = 0
 ·
  rw [if_pos c3] at H
  have c3b0 : (t139 == 0) = true := beq_iff_eq.mpr c3
  have c3b1 : (t139 != 0) = false := bne_eq_false_iff_eq.mpr c3
  clear c3
  simp only [Option.some.injEq, Prod.mk.injEq] at H
  obtain ⟨rfl, rfl⟩ := H
  go_enter Try.func15, Try.ntmps15
  go_wp2_with (first | ((with_reducible refine gate_callee (f := 25) rfl ?_); refine goesL_ (some 8) rfl rfl Try.func25 (by kernel_rfl) rfl #[.slice A0 l0.length c0] rfl ags ?_; (with_reducible refine (event_Width.calls k _ _ l0 t138 t139 _ ?side1 ?side2 A2.out).mono ?_); (case side1 => exact skC HR0.out); (case side2 => exact HC0.out); rintro e w4 ⟨rfl, hb⟩; refine ⟨_, rfl, ?_⟩; have n0_ := asd (below_step (skB HB.out) hb); clear HB; have HB := n0_; clear n0_; (try clear hb); (try clear hb2); (try clear hk); (try clear hi)))
  go_ret2
  exact ⟨re, skB HB.out⟩
 ·
  rw [if_neg c3] at H
  have c3b0 : (t139 == 0) = false := beq_eq_false_iff_ne.mpr c3
  have c3b1 : (t139 != 0) = true := bne_iff_ne.mpr c3
  simp only [Option.some.injEq, Prod.mk.injEq] at H
  obtain ⟨rfl, rfl⟩ := H
  go_enter Try.func15, Try.ntmps15
  go_wp2_with (first | ((with_reducible refine gate_callee (f := 25) rfl ?_); refine goesL_ (some 8) rfl rfl Try.func25 (by kernel_rfl) rfl #[.slice A0 l0.length c0] rfl ags ?_; (with_reducible refine (event_Width.calls k _ _ l0 t138 t139 _ ?side1 ?side2 A2.out).mono ?_); (case side1 => exact skC HR0.out); (case side2 => exact HC0.out); rintro e w5 ⟨rfl, hb⟩; refine ⟨_, rfl, ?_⟩; have n0_ := asd (below_step (skB HB.out) hb); clear HB; have HB := n0_; clear n0_; (try clear hb); (try clear hb2); (try clear hk); (try clear hi)))
  go_ret2
  exact ⟨re, skB HB.out⟩
end Go.Proofs.Ytagdkmcgepidoaa.P
