/- P.modelMemory_holds, part 18 of 37: the contracts of the Go functions that the law calls, its own walk, and its plain law, for every input that the statement speaks of. -/
import Derived.Test.YtanlnfcjdjamaaaMMe16
import Derived.Test.YtanlnfcjdjamaaaMMe2
set_option linter.unusedVariables false
set_option linter.unusedSimpArgs false
/- E10 -/
namespace Go.Proofs.Ytanlnfcjdjamaaa.P
open Go.RowKit Go.Proofs.YtanlnfcjdjamaaaW.PrintWords Go.Proofs.YtanlnfcjdjamaaaW.PrintLast Go.Proofs.YtanlnfcjdjamaaaW.PrintMore
def larchref06_Do.f (k : Nat) (l0 : List (S51)) (a1_0 : Int) (a1_1 : Int) (a1_2 : Int) (a1_3 : Int) : Option ((List (S51)) × Bool × Int × Int × (List (S51)) × Int) := (larchref06_Check.f k l0).bind fun t244 => (if t244 = 0 then ((larchref06_Kind.f a1_0).bind fun t245 => (if t245 = 0 then ((larchref06_Step.f l0 a1_0 a1_1 a1_2 a1_3).bind fun bt246 => (some (bt246.1, bt246.2.1, bt246.2.2.1, bt246.2.2.2.1, bt246.2.2.2.2, 0))) else (some (([] : List (S51)), false, 0, 0, ([] : List (S51)), 5)))) else (some (([] : List (S51)), false, 0, 0, ([] : List (S51)), 11)))
set_option maxHeartbeats 4000000 in
set_option maxRecDepth 100000 in
theorem larchref06_Do.calls (k : Nat) (A0 : Option Addr) (c0 : Nat) (l0 : List (S51)) (a1_0 : Int) (a1_1 : Int) (a1_2 : Int) (a1_3 : Int) (r1 : List (S51)) (r2 : Bool) (r3 : Int) (r4 : Int) (r5 : List (S51)) (r6 : Int) (w : World) (hr0 : Kd.C k51 w A0 l0.length l0) (hc0 : l0.length ≤ c0) (h : larchref06_Do.f k l0 a1_0 a1_1 a1_2 a1_3 = some (r1, r2, r3, r4, r5, r6)) :
    Calls Try.prog 11 #[.slice A0 l0.length c0, .agg #[.int .i64 a1_0, .int .i64 a1_1, .int .i64 a1_2, .int .i64 a1_3]] w fun e w' => ∃ v0_ v4_ : Value, e = .returned (.tuple #[v0_, .agg #[.bool r2, .int .i64 r3, .int .i64 r4, v4_], .int .i64 r6]) ∧ Kd.R k51 51 w' w.heap.size (fun k_ => some k_ ≠ (v4_ : Value).ownBlock) v0_ r1 ∧ Kd.R k51 51 w' w.heap.size (fun k_ => some k_ ≠ (v0_ : Value).ownBlock) v4_ r5 ∧ Below w.heap.size w w' := by
  have hu25 := Try.underlying25
  have hu27 := Try.underlying27
  have hu51 := Try.underlying51
  obtain ⟨t, ht, h⟩ := Option.bind_eq_some_iff.mp h
  have HT := Aside0.mk ht
  clear ht
  obtain ⟨o, ho⟩ : ∃ o : S25, o = ⟨a1_0, a1_1, a1_2, a1_3⟩ := ⟨_, rfl⟩
  obtain rfl : a1_0 = o.f0 := by rw [ho]
  obtain rfl : a1_1 = o.f1 := by rw [ho]
  obtain rfl : a1_2 = o.f2 := by rw [ho]
  obtain rfl : a1_3 = o.f3 := by rw [ho]
  clear ho
  have hD := DoW.start w o
  obtain ⟨Wa, hWa⟩ : ∃ Wa, Wa = (w.alloc (.cells #[.int .i64 o.f0, .int .i64 o.f1, .int .i64 o.f2, .int .i64 o.f3] 25)).alloc (.cells #[.bool false, .int .i64 0, .int .i64 0, .slice none 0 0] 27) := ⟨_, rfl⟩
  rw [← hWa] at hD
  have hBa : Below w.heap.size w Wa := by rw [hWa]; exact below_alloc (below_alloc (Below.refl _ _) _) _
  have HD := Aside0.mk hD
  have HBA := Aside0.mk hBa
  have HWA := Aside0.mk hWa
  clear hD hBa hWa
  by_cases c4 : t = 0
  · rw [if_pos c4] at h
    subst c4
    obtain ⟨t2, ht2, h⟩ := Option.bind_eq_some_iff.mp h
    have HT2 := Aside0.mk ht2
    clear ht2
    by_cases c6 : t2 = 0
    · rw [if_pos c6] at h
      subst c6
      obtain ⟨⟨m, q0, q1, q2, ps⟩, hst, h⟩ := Option.bind_eq_some_iff.mp h
      have HST := Aside0.mk hst
      have hh := Option.some.inj h
      cases hh
      clear h hst
      go_enter Try.func11, Try.ntmps11
      go_wp2_with (first
        | (go_at_call 30; rw [← HWA.out]; refine (larchref06_Check.calls k A0 c0 l0 0 Wa (Kd.C_below hr0 HBA.out) hc0 HT.out).mono ?_; rintro e w1 ⟨rfl, hd⟩; have HB1 := Aside0.mk (below_step HBA.out hd.below); have HD1 := Aside0.mk (HD.out.next (grown_below hd.below none) (by simp) (by simp)); have x0 := HD1.out.x0; clear hd)
        | (go_at_call 31; refine (larchref06_Kind.calls o.f0 0 w1 HT2.out).mono ?_; rintro e w2 ⟨rfl, hd⟩; have HB2 := Aside0.mk (below_step HB1.out hd.below); have HD2 := Aside0.mk (HD1.out.next (grown_below hd.below none) (by simp) (by simp)); have u0 := HD2.out.x0; have u1 := HD2.out.x1; have u2 := HD2.out.x2; have u3 := HD2.out.x3; clear hd x0)
        | (go_at_call 39; refine (larchref06_Step.calls A0 c0 l0 o.f0 o.f1 o.f2 o.f3 m q0 q1 q2 ps w2 (Kd.C_below hr0 HB2.out) hc0 HST.out).mono ?_; rintro e w3 ⟨v0, v4, rfl, hR, hR4, hb⟩; obtain ⟨Am, cm, rfl⟩ := Kd.R_slice hR; obtain ⟨A4, c4, rfl⟩ := Kd.R_slice hR4; have HB3 := Aside0.mk (below_step HB2.out hb); have HD3 := Aside0.mk (HD2.out.next (grown_below hb none) (by simp) (by simp)); have HM := Aside0.mk (Kd.R_lower hR HB2.out.size); have H4 := Aside0.mk (Kd.R_lower hR4 HB2.out.size); clear hb hR hR4 u0 u1 u2 u3))
      obtain ⟨Wb, hWb⟩ : ∃ Wb, Wb = w3.alloc (.cells #[.bool q0, .int .i64 q1, .int .i64 q2, .slice A4 ps.length c4] 27) := ⟨_, rfl⟩
      have hn := blk_new w3 (.cells #[.bool q0, .int .i64 q1, .int .i64 q2, .slice A4 ps.length c4] 27)
      have hbb : Below w3.heap.size w3 Wb := by rw [hWb]; exact below_alloc (Below.refl _ _) _
      rw [← hWb] at hn ⊢
      have HB4 := Aside0.mk (below_step HB3.out hbb)
      have HD4 := Aside0.mk (HD3.out.next (grown_below hbb none) (by simp) (by simp))
      have HM4 := Aside0.mk (Kd.R_below HM.out hbb)
      have H44 := Aside0.mk (Kd.R_below H4.out hbb)
      have r0 : Wb.cell? ⟨w3.heap.size, 0, none⟩ = some (.bool q0) := (blk_cell hn 0).trans rfl
      have r1 : Wb.cell? ⟨w3.heap.size, 1, none⟩ = some (.int .i64 q1) := (blk_cell hn 1).trans rfl
      have r2 : Wb.cell? ⟨w3.heap.size, 2, none⟩ = some (.int .i64 q2) := (blk_cell hn 2).trans rfl
      have r3 : Wb.cell? ⟨w3.heap.size, 3, none⟩ = some (.slice A4 ps.length c4) := (blk_cell hn 3).trans rfl
      have z0 : Wb.cell? ⟨w.heap.size + 1, 0, none⟩ = some (.bool false) := (blk_cell HD4.out.rt 0).trans rfl
      have z1 : Wb.cell? ⟨w.heap.size + 1, 1, none⟩ = some (.int .i64 0) := (blk_cell HD4.out.rt 1).trans rfl
      have z2 : Wb.cell? ⟨w.heap.size + 1, 2, none⟩ = some (.int .i64 0) := (blk_cell HD4.out.rt 2).trans rfl
      have z3 : Wb.cell? ⟨w.heap.size + 1, 3, none⟩ = some (.slice none 0 0) := (blk_cell HD4.out.rt 3).trans rfl
      have f0 := blk_frozen HD4.out.rt 0
      have f1 := blk_frozen HD4.out.rt 1
      have f2 := blk_frozen HD4.out.rt 2
      have f3 := blk_frozen HD4.out.rt 3
      clear hWb hn hbb HB3 HD3 HM H4
      go_region
      change Exit.then _ _ _ _ ((retW Wb.drew (w.heap.size + 1) q0 q1 q2 (.slice A4 ps.length c4)))
      have hrt : (retW Wb.drew (w.heap.size + 1) q0 q1 q2 (.slice A4 ps.length c4)).heap[w.heap.size + 1]? = some (.cells (rC q0 q1 q2 (.slice A4 ps.length c4)) 27 (0, 0)) := ret_rt (W := Wb.drew) HD4.out.rt q0 q1 q2 (.slice A4 ps.length c4)
      clear r0 r1 r2 r3 z0 z1 z2 z3 f0 f1 f2 f3
      have HO : Aside0 (Kd.R k51 51 (retW Wb.drew (w.heap.size + 1) q0 q1 q2 (.slice A4 ps.length c4)) w.heap.size (fun k_ => some k_ ≠ (Value.slice A4 ps.length c4).ownBlock) (.slice Am m.length cm) m) := ⟨ret_R (W := Wb.drew) HD4.out.rt q0 q1 q2 (.slice A4 ps.length c4) (Kd.R_drew HM4.out)⟩
      have HO3 := Aside0.mk (ret_R (W := Wb.drew) HD4.out.rt q0 q1 q2 (.slice A4 ps.length c4) (Kd.R_drew H44.out))
      have HB5 := Aside0.mk (below_ret0 (b := q0) (x := q1) (y := q2) (v := .slice A4 ps.length c4) (g := w.heap.size + 1) (below_drew1 HB4.out) (by omega))
      go_wp2
      refine bodyPost_ret (results_list (rs := [.tmp 4, .cell 5 27, .tmp 6]) rfl (by simp) (.tmp (.cell (w.heap.size + 1) 27 #[.bool q0, .int .i64 q1, .int .i64 q2, .slice A4 ps.length c4] (0, 0) _ rfl hrt Try.underlying27 rfl (by kernel_rfl) (.tmp .nil)))) rfl ?_
      exact ⟨_, _, rfl, HO.out, HO3.out, HB5.out⟩
    · have c6' : (t2 != 0) = true := by simpa using c6
      rw [if_neg c6] at h
      cases Option.some.inj h
      clear h c6
      go_enter Try.func11, Try.ntmps11
      go_wp2_with (first
        | (go_at_call 30; rw [← HWA.out]; refine (larchref06_Check.calls k A0 c0 l0 0 Wa (Kd.C_below hr0 HBA.out) hc0 HT.out).mono ?_; rintro e w1 ⟨rfl, hd⟩; have HB1 := Aside0.mk (below_step HBA.out hd.below); have HD1 := Aside0.mk (HD.out.next (grown_below hd.below none) (by simp) (by simp)); have x0 := HD1.out.x0; clear hd)
        | (go_at_call 31; refine (larchref06_Kind.calls o.f0 t2 w1 HT2.out).mono ?_; rintro e w2 ⟨rfl, hd⟩; have HB2 := Aside0.mk (below_step HB1.out hd.below); have HD2 := Aside0.mk (HD1.out.next (grown_below hd.below none) (by simp) (by simp)); have z0 : w2.cell? ⟨w.heap.size + 1, 0, none⟩ = some (.bool false) := (blk_cell HD2.out.rt 0).trans rfl; have z1 : w2.cell? ⟨w.heap.size + 1, 1, none⟩ = some (.int .i64 0) := (blk_cell HD2.out.rt 1).trans rfl; have z2 : w2.cell? ⟨w.heap.size + 1, 2, none⟩ = some (.int .i64 0) := (blk_cell HD2.out.rt 2).trans rfl; have z3 : w2.cell? ⟨w.heap.size + 1, 3, none⟩ = some (.slice none 0 0) := (blk_cell HD2.out.rt 3).trans rfl; have f0 := blk_frozen HD2.out.rt 0; have f1 := blk_frozen HD2.out.rt 1; have f2 := blk_frozen HD2.out.rt 2; have f3 := blk_frozen HD2.out.rt 3; clear hd x0))
      have hrt := ret_rt HD2.out.rt false 0 0 (.slice none 0 0)
      refine bodyPost_ret (results_list (rs := [.tmp 4, .cell 5 27, .tmp 6]) rfl (by simp) (.tmp (.cell (w.heap.size + 1) 27 #[.bool false, .int .i64 0, .int .i64 0, .slice none 0 0] (0, 0) _ rfl ?hh Try.underlying27 rfl (by kernel_rfl) (.tmp .nil)))) rfl ?_
      case hh => first | exact hrt | exact HD2.out.rt
      first
        | exact ⟨_, _, rfl, Kd.R_nil _ _ _ _ _, Kd.R_nil _ _ _ _ _, HB2.out⟩
        | exact ⟨_, _, rfl, Kd.R_nil _ _ _ _ _, Kd.R_nil _ _ _ _ _, below_ret0 (g := w.heap.size + 1) (b := false) (x := 0) (y := 0) (v := .slice none 0 0) HB2.out (by omega)⟩
  · have c4' : (t != 0) = true := by simpa using c4
    rw [if_neg c4] at h
    cases Option.some.inj h
    clear h c4
    go_enter Try.func11, Try.ntmps11
    go_wp2_with (first
      | (go_at_call 30; rw [← HWA.out]; refine (larchref06_Check.calls k A0 c0 l0 t Wa (Kd.C_below hr0 HBA.out) hc0 HT.out).mono ?_; rintro e w2 ⟨rfl, hd⟩; have HB2 := Aside0.mk (below_step HBA.out hd.below); have HD2 := Aside0.mk (HD.out.next (grown_below hd.below none) (by simp) (by simp)); have z0 : w2.cell? ⟨w.heap.size + 1, 0, none⟩ = some (.bool false) := (blk_cell HD2.out.rt 0).trans rfl; have z1 : w2.cell? ⟨w.heap.size + 1, 1, none⟩ = some (.int .i64 0) := (blk_cell HD2.out.rt 1).trans rfl; have z2 : w2.cell? ⟨w.heap.size + 1, 2, none⟩ = some (.int .i64 0) := (blk_cell HD2.out.rt 2).trans rfl; have z3 : w2.cell? ⟨w.heap.size + 1, 3, none⟩ = some (.slice none 0 0) := (blk_cell HD2.out.rt 3).trans rfl; have f0 := blk_frozen HD2.out.rt 0; have f1 := blk_frozen HD2.out.rt 1; have f2 := blk_frozen HD2.out.rt 2; have f3 := blk_frozen HD2.out.rt 3; clear hd))
    have hrt := ret_rt HD2.out.rt false 0 0 (.slice none 0 0)
    refine bodyPost_ret (results_list (rs := [.tmp 4, .cell 5 27, .tmp 6]) rfl (by simp) (.tmp (.cell (w.heap.size + 1) 27 #[.bool false, .int .i64 0, .int .i64 0, .slice none 0 0] (0, 0) _ rfl ?hh Try.underlying27 rfl (by kernel_rfl) (.tmp .nil)))) rfl ?_
    case hh => first | exact hrt | exact HD2.out.rt
    first
      | exact ⟨_, _, rfl, Kd.R_nil _ _ _ _ _, Kd.R_nil _ _ _ _ _, HB2.out⟩
      | exact ⟨_, _, rfl, Kd.R_nil _ _ _ _ _, Kd.R_nil _ _ _ _ _, below_ret0 (g := w.heap.size + 1) (b := false) (x := 0) (y := 0) (v := .slice none 0 0) HB2.out (by omega)⟩
end Go.Proofs.Ytanlnfcjdjamaaa.P
