/- P.eventApart_holds, part 25 of 41: the contracts of the Go functions that the law calls, its own walk, and its plain law, for every input that the statement speaks of. -/
import Derived.Test.YtagdkmcgepidoaaMAp21
import Derived.Test.YtagdkmcgepidoaaMAp8
set_option linter.unusedVariables false
set_option linter.unusedSimpArgs false
/- E7 -/
namespace Go.Proofs.Ytagdkmcgepidoaa.P
open Go.RowKit Go.Proofs.YtagdkmcgepidoaaW.PrintWords Go.Proofs.YtagdkmcgepidoaaW.PrintLast Go.Proofs.YtagdkmcgepidoaaW.PrintMore
def ofP (l0 : List S67) (t : Int) (i : Nat) : Bool := (J67 l0 (i : Int)).f0 == t
set_option maxHeartbeats 8000000 in
set_option maxRecDepth 100000 in
theorem ofP_calls (A0 : Option Addr) (c0 : Nat) (l0 : List S67) (t : Int) (gh gt : Nat) (W : World) (hh : W.cell? ⟨gh, 0, none⟩ = some (.slice A0 l0.length c0)) (ht : W.cell? ⟨gt, 0, none⟩ = some (.int .i64 t)) (hr : Kd.C k67 W A0 l0.length l0) (i : Nat) (hi : i < l0.length) :
    Calls Try.prog 53 #[.int .i64 (i : Int), .pointer (some ⟨gh, 0, none⟩), .pointer (some ⟨gt, 0, none⟩)] W fun e w' => e = .returned (.bool (ofP l0 t i)) ∧ Below W.heap.size W w' := by
  have hu67 := Try.underlying67
  obtain ⟨ad2, A9, c9, ea, y0, -⟩ := at_T67 hr (i : Int) (by omega) (by omega)
  subst ea
  simp only [Int.toNat_natCast] at y0
  unfold ofP
  go_enter Try.func53, Try.ntmps53
  go_wp2
  go_region
  go_wp2
  go_ret
  exact ⟨rfl, below_drew1 (Below.refl _ _)⟩
def event_Of.f (l0 : List S67) (a1 : Int) : Option (List S67 × Int) := (event_Check.f l0).bind fun c => if c = 0 then (if (l0.length ≤ 100000 ∧ ∀ e ∈ l0, e.f3.f3.length ≤ 1048576) then some (keptL (ofP l0 a1) l0 l0.length 0 [], 0) else none) else some ([], c)
set_option maxHeartbeats 8000000 in
set_option maxRecDepth 100000 in
theorem event_Of.calls (A0 : Option Addr) (c0 : Nat) (l0 : List (S67)) (a1 : Int) (r1 : List (S67)) (r2 : Int) (w : World) (hr0 : Kd.C k67 w A0 l0.length l0) (hc0 : l0.length ≤ c0) (h : event_Of.f l0 a1 = some (r1, r2)) :
    Calls Try.prog 28 #[.slice A0 l0.length c0, .int .i64 a1] w fun e w' => ∃ v0_ : Value, e = .returned (.tuple #[v0_, .int .i64 r2]) ∧ Kd.S k67 67 w' w.heap.size (fun _ => True) v0_ r1 ∧ Below w.heap.size w w' := by
  have hu67 := Try.underlying67
  unfold event_Of.f at h
  obtain ⟨c, hc, h⟩ := Option.bind_eq_some_iff.mp h
  by_cases hz : c = 0
  · subst hz
    rw [if_pos rfl] at h
    split at h
    rotate_left
    · simp at h
    rename_i hcond
    obtain ⟨hl, hps⟩ := hcond
    simp only [Option.some.injEq, Prod.mk.injEq] at h
    obtain ⟨rfl, rfl⟩ := h
    have HPS := Aside0.mk hps
    have HC := Aside0.mk hc
    clear hps hc
    go_enter Try.func28, Try.ntmps28
    go_wp2_with (first
      | (go_at_call 30; refine (event_Check.calls A0 c0 l0 0 _ (Kd.C_alloc (Kd.C_alloc hr0 _) _) hc0 HC.out).mono ?_; rintro e w2 ⟨rfl, hb2⟩; have hk1 := blk_below (blk_alloc (blk_new w (.cells #[.slice A0 l0.length c0] 22)) (.cells #[.int .i64 a1] 3)) hb2; have hk2 := blk_below (blk_new (w.alloc (.cells #[.slice A0 l0.length c0] 22)) (.cells #[.int .i64 a1] 3)) hb2; have q1 := (blk_cell hk1 0).trans rfl; have q2 := (blk_cell hk2 0).trans rfl; simp at q1 q2; have hr2 := Kd.C_below (Kd.C_alloc (Kd.C_alloc hr0 _) _) hb2; have HB2 := Aside0.mk (below_step (below_alloc (below_alloc (Below.refl _ _) _) _) hb2); clear hb2 hk1 hk2)
      | (go_at_call 52; refine (keptOf_calls A0 c0 l0 (.pointer (some ⟨w.heap.size, 0, none⟩)) (.pointer (some ⟨w.heap.size + 1, 0, none⟩)) (ofP l0 a1) _ hr2 hc0 hl HPS.out ?hp).mono ?_; (case hp => exact fun W hW i hi => ofP_calls A0 c0 l0 a1 w.heap.size (w.heap.size + 1) W ((hW.cell (World.block_lt_of_cell? _ _ q1)).trans q1) ((hW.cell (World.block_lt_of_cell? _ _ q2)).trans q2) (Kd.C_below hr2 hW) i hi); rintro e w3 ⟨v3, rfl, ho3, hb3⟩; have HO3 := Aside0.mk (Kd.S_lower ho3 HB2.out.size); have HB3 := Aside0.mk (below_step HB2.out hb3); clear ho3 hb3))
    go_ret2
    exact ⟨_, rfl, HO3.out, HB3.out⟩
  · rw [if_neg hz] at h
    simp only [Option.some.injEq, Prod.mk.injEq] at h
    obtain ⟨rfl, rfl⟩ := h
    have hz' : (c != 0) = true := by simpa using hz
    go_enter Try.func28, Try.ntmps28
    go_wp2_with (go_at_call 30; refine (event_Check.calls A0 c0 l0 c _ (Kd.C_alloc (Kd.C_alloc hr0 _) _) hc0 hc).mono ?_; rintro e w2 ⟨rfl, hb2⟩; have HB2 := Aside0.mk (below_step (below_alloc (below_alloc (Below.refl _ _) _) _) hb2); clear hb2)
    go_ret2
    exact ⟨_, rfl, Kd.S_nil _ _ _ _ _, HB2.out⟩
end Go.Proofs.Ytagdkmcgepidoaa.P
