/- P.eventApart_holds, part 28 of 41: the contracts of the Go functions that the law calls, its own walk, and its plain law, for every input that the statement speaks of. -/
import Derived.Test.YtagdkmcgepidoaaMAp22
import Derived.Test.YtagdkmcgepidoaaMAp13
import Derived.Test.YtagdkmcgepidoaaMAp4
import Derived.Test.YtagdkmcgepidoaaMAp14
set_option linter.unusedVariables false
set_option linter.unusedSimpArgs false
/- E8 -/
namespace Go.Proofs.Ytagdkmcgepidoaa.P
open Go.RowKit Go.Proofs.YtagdkmcgepidoaaW.PrintWords Go.Proofs.YtagdkmcgepidoaaW.PrintLast Go.Proofs.YtagdkmcgepidoaaW.PrintMore
def cutP (wh : List Int) (n : Int) (i : Nat) : Bool := decide (rd wh (i : Int) < n)
set_option maxHeartbeats 2000000 in
set_option maxRecDepth 100000 in
theorem cutP_calls (A : Option Addr) (c : Nat) (wh : List Int) (n : Int) (go gn : Nat) (W : World) (hh : W.cell? ⟨go, 0, none⟩ = some (.slice A wh.length c)) (hn : W.cell? ⟨gn, 0, none⟩ = some (.int .i64 n)) (hr : Kd.C (Kd.int .i64) W A wh.length wh) (i : Nat) (hi : i < wh.length) :
    Calls Try.prog 58 #[.int .i64 (i : Int), .pointer (some ⟨go, 0, none⟩), .pointer (some ⟨gn, 0, none⟩)] W fun e w' => e = .returned (.bool (cutP wh n i)) ∧ Below W.heap.size W w' := by
  obtain ⟨ad2, ea, y0⟩ := Kd.at_int hr (i : Int) (by omega) (by omega)
  subst ea
  simp only [Int.toNat_natCast] at y0
  unfold cutP
  go_enter Try.func58, Try.ntmps58
  go_wp2
  go_region
  go_wp2
  go_ret
  exact ⟨rfl, below_drew1 (Below.refl _ _)⟩
def event_Cut.f (l0 : List S67) (a1 : Int) : Option (List S67 × Int) := (event_Calls.f l0).bind fun t => if t.2 = 0 then (if a1 < 0 then some ([], 1) else (event_places.f 200002 l0 t.1).bind fun wh => if (l0.length ≤ 100000 ∧ ∀ e ∈ l0, e.f3.f3.length ≤ 1048576) ∧ wh.length = l0.length then some (keptL (cutP wh a1) l0 l0.length 0 [], 0) else none) else some ([], t.2)
set_option maxHeartbeats 2000000 in
set_option maxRecDepth 100000 in
theorem event_Cut.calls (A0 : Option Addr) (c0 : Nat) (l0 : List (S67)) (a1 : Int) (r1 : List (S67)) (r2 : Int) (w : World) (hr0 : Kd.C k67 w A0 l0.length l0) (hc0 : l0.length ≤ c0) (h : event_Cut.f l0 a1 = some (r1, r2)) :
    Calls Try.prog 32 #[.slice A0 l0.length c0, .int .i64 a1] w fun e w' => ∃ v0_ : Value, e = .returned (.tuple #[v0_, .int .i64 r2]) ∧ Kd.S k67 67 w' w.heap.size (fun _ => True) v0_ r1 ∧ Below w.heap.size w w' := by
  have hu67 := Try.underlying67
  unfold event_Cut.f at h
  obtain ⟨⟨cs, c⟩, hc, h⟩ := Option.bind_eq_some_iff.mp h
  have HC := Aside0.mk hc
  clear hc
  simp only at h
  by_cases hz : c = 0
  rotate_left
  · rw [if_neg hz] at h
    simp only [Option.some.injEq, Prod.mk.injEq] at h
    obtain ⟨rfl, rfl⟩ := h
    have hz' : (c != 0) = true := by simpa using hz
    go_enter Try.func32, Try.ntmps32
    go_wp2_with (go_at_call 13; refine (event_Calls.calls A0 c0 l0 cs c _ (Kd.C_alloc hr0 _) hc0 HC.out).mono ?_; rintro e w2 ⟨v2, rfl, ho2, hb2⟩; have HB2 := Aside0.mk (below_step (below_alloc (Below.refl _ _) _) hb2); clear hb2)
    go_ret2
    exact ⟨_, rfl, Kd.S_nil _ _ _ _ _, HB2.out⟩
  subst hz
  rw [if_pos rfl] at h
  by_cases hn : a1 < 0
  · rw [if_pos hn] at h
    simp only [Option.some.injEq, Prod.mk.injEq] at h
    obtain ⟨rfl, rfl⟩ := h
    have hn' := decide_eq_true hn
    go_enter Try.func32, Try.ntmps32
    go_wp2_with (go_at_call 13; refine (event_Calls.calls A0 c0 l0 cs 0 _ (Kd.C_alloc hr0 _) hc0 HC.out).mono ?_; rintro e w2 ⟨v2, rfl, ho2, hb2⟩; have q1 := (blk_cell (blk_below (blk_new w (.cells #[.int .i64 a1] 3)) hb2) 0).trans rfl; simp at q1; have HB2 := Aside0.mk (below_step (below_alloc (Below.refl _ _) _) hb2); clear hb2)
    go_ret2
    exact ⟨_, rfl, Kd.S_nil _ _ _ _ _, HB2.out⟩
  rw [if_neg hn] at h
  have hn' := decide_eq_false hn
  obtain ⟨wh, hwh, h⟩ := Option.bind_eq_some_iff.mp h
  split at h
  rotate_left
  · simp at h
  rename_i hcond
  obtain ⟨⟨hl, hps⟩, hwl⟩ := hcond
  simp only [Option.some.injEq, Prod.mk.injEq] at h
  obtain ⟨rfl, rfl⟩ := h
  have HPS := Aside0.mk hps
  have HWL := Aside0.mk hwl
  have HW := Aside0.mk hwh
  clear hps hwl hwh
  go_enter Try.func32, Try.ntmps32
  go_wp2_with (first
    | (go_at_call 13; refine (event_Calls.calls A0 c0 l0 cs 0 _ (Kd.C_alloc hr0 _) hc0 HC.out).mono ?_; rintro e w2 ⟨v2, rfl, ho2, hb2⟩; obtain ⟨A2, c2, rfl⟩ := Kd.S_slice ho2; have hk1 := blk_below (blk_new w (.cells #[.int .i64 a1] 3)) hb2; have q1 := (blk_cell hk1 0).trans rfl; simp at q1; have hr2 := Kd.C_below (Kd.C_alloc hr0 _) hb2; have hcs := (Kd.S_reads' ho2).2.2; have hcc := (Kd.S_reads' ho2).2.1; have HB2 := Aside0.mk (below_step (below_alloc (Below.refl _ _) _) hb2); clear hb2 ho2 hk1)
    | (go_at_call 57; refine (event_places.calls 200002 A0 c0 l0 A2 c2 cs wh _ hr2 hc0 hcs hcc HW.out).mono ?_; rintro e w3 ⟨v3, rfl, ho3, hb3⟩; obtain ⟨A3, c3, rfl⟩ := Kd.R_slice ho3; have q2 := pw_cell_below hb3 q1; have hr3 := Kd.C_below hr2 hb3; have hw3 := (Kd.R_reads' ho3).2.2; have HB3 := Aside0.mk (below_step HB2.out hb3); clear hb3 ho3)
    | (go_at_call 52; have q3 : (w3.alloc (.cells #[.slice A3 wh.length c3] 41)).cell? ⟨w3.heap.size, 0, none⟩ = some (.slice A3 wh.length c3) := (blk_cell (blk_new w3 (.cells #[.slice A3 wh.length c3] 41)) 0).trans rfl; refine (keptCut_calls A0 c0 l0 (.pointer (some ⟨w3.heap.size, 0, none⟩)) (.pointer (some ⟨w.heap.size, 0, none⟩)) (cutP wh a1) _ (Kd.C_alloc hr3 _) hc0 hl HPS.out ?hp).mono ?_; (case hp => exact fun W hW i hi => cutP_calls A3 c3 wh a1 w3.heap.size w.heap.size W (pw_cell_below hW q3) (pw_cell_below hW (pw_cell_below (below_alloc (Below.refl _ _) _) q2)) (Kd.C_below (Kd.C_alloc hw3 _) hW) i (by have := HWL.out; omega)); rintro e w4 ⟨v4, rfl, ho4, hb4⟩; have HO4 := Aside0.mk (Kd.S_lower ho4 (below_alloc HB3.out _).size); have HB4 := Aside0.mk (below_step (below_alloc HB3.out _) hb4); clear ho4 hb4))
  go_ret2
  exact ⟨_, rfl, HO4.out, HB4.out⟩
end Go.Proofs.Ytagdkmcgepidoaa.P
