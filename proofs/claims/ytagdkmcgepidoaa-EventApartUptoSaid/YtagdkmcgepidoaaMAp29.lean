/- P.eventApart_holds, part 30 of 41: the contracts of the Go functions that the law calls, its own walk, and its plain law, for every input that the statement speaks of. -/
import Derived.Test.YtagdkmcgepidoaaMAp23
import Derived.Test.YtagdkmcgepidoaaMAp13
import Derived.Test.YtagdkmcgepidoaaMAp4
import Derived.Test.YtagdkmcgepidoaaMAp14
set_option linter.unusedVariables false
set_option linter.unusedSimpArgs false
/- E9 -/
namespace Go.Proofs.Ytagdkmcgepidoaa.P
open Go.RowKit Go.Proofs.YtagdkmcgepidoaaW.PrintWords Go.Proofs.YtagdkmcgepidoaaW.PrintLast Go.Proofs.YtagdkmcgepidoaaW.PrintMore
def doneP (cs : List S38) (wh : List Int) (i : Nat) : Bool := decide ((J38 cs (rd wh (i : Int))).f4 ≥ 0)
set_option maxHeartbeats 2000000 in
set_option maxRecDepth 100000 in
theorem doneP_calls (A B : Option Addr) (c d : Nat) (cs : List S38) (wh : List Int) (gc go : Nat) (W : World) (hh : W.cell? ⟨gc, 0, none⟩ = some (.slice B cs.length d)) (hn : W.cell? ⟨go, 0, none⟩ = some (.slice A wh.length c)) (hr : Kd.C (Kd.int .i64) W A wh.length wh) (hs : Kd.C k38 W B cs.length cs) (i : Nat) (hi : i < wh.length) (h0 : 0 ≤ rd wh (i : Int)) (h1 : rd wh (i : Int) < cs.length) :
    Calls Try.prog 59 #[.int .i64 (i : Int), .pointer (some ⟨gc, 0, none⟩), .pointer (some ⟨go, 0, none⟩)] W fun e w' => e = .returned (.bool (doneP cs wh i)) ∧ Below W.heap.size W w' := by
  have hu38 := Try.underlying38
  obtain ⟨ad2, ea, y0⟩ := Kd.at_int hr (i : Int) (by omega) (by omega)
  subst ea
  simp only [Int.toNat_natCast] at y0
  unfold doneP
  obtain ⟨q, hq⟩ : ∃ q, q = rd wh (i : Int) := ⟨_, rfl⟩
  rw [← hq] at y0 h0 h1 ⊢
  clear hq
  obtain ⟨ad3, A8, c8, ea, z0, z1, z2, z3, z4, z5, z6, z7, z8, z9, z10, -⟩ := at_T38 hs q h0 h1
  subst ea
  clear z0 z1 z2 z3 z4 z5 z6 z7 z8 z9
  go_enter Try.func59, Try.ntmps59
  go_wp2
  go_region
  go_wp2
  go_ret
  exact ⟨rfl, below_drew1 (Below.refl _ _)⟩
def event_Done.f (l0 : List S67) : Option (List S67 × Int) := (event_Calls.f l0).bind fun t => if t.2 = 0 then ((event_places.f 200002 l0 t.1).bind fun wh => if ((l0.length ≤ 100000 ∧ ∀ e ∈ l0, e.f3.f3.length ≤ 1048576) ∧ wh.length = l0.length) ∧ ∀ x ∈ wh, 0 ≤ x ∧ x < (t.1.length : Int) then some (keptL (doneP t.1 wh) l0 l0.length 0 [], 0) else none) else some ([], t.2)
set_option maxHeartbeats 2000000 in
set_option maxRecDepth 100000 in
theorem event_Done.calls (A0 : Option Addr) (c0 : Nat) (l0 : List (S67)) (r1 : List (S67)) (r2 : Int) (w : World) (hr0 : Kd.C k67 w A0 l0.length l0) (hc0 : l0.length ≤ c0) (h : event_Done.f l0 = some (r1, r2)) :
    Calls Try.prog 34 #[.slice A0 l0.length c0] w fun e w' => ∃ v0_ : Value, e = .returned (.tuple #[v0_, .int .i64 r2]) ∧ Kd.S k67 67 w' w.heap.size (fun _ => True) v0_ r1 ∧ Below w.heap.size w w' := by
  have hu67 := Try.underlying67
  unfold event_Done.f at h
  obtain ⟨⟨cs, c⟩, hc, h⟩ := Option.bind_eq_some_iff.mp h
  have HC := Aside0.mk hc
  clear hc
  simp only at h
  by_cases hz : c = 0
  rotate_left
  · rw [if_neg hz] at h
    simp only [Option.some.injEq, Prod.mk.injEq] at h
    obtain ⟨rfl, rfl⟩ := h
    have hz' : (c != 0) = true := by simpa using hz
    go_enter Try.func34, Try.ntmps34
    go_wp2_with (go_at_call 13; refine (event_Calls.calls A0 c0 l0 cs c _ hr0 hc0 HC.out).mono ?_; rintro e w2 ⟨v2, rfl, ho2, hb2⟩; obtain ⟨A2, c2, rfl⟩ := Kd.S_slice ho2; have HB2 := Aside0.mk hb2; clear hb2)
    go_ret2
    exact ⟨_, rfl, Kd.S_nil _ _ _ _ _, below_alloc HB2.out _⟩
  subst hz
  rw [if_pos rfl] at h
  obtain ⟨wh, hwh, h⟩ := Option.bind_eq_some_iff.mp h
  split at h
  rotate_left
  · simp at h
  rename_i hcond
  obtain ⟨⟨⟨hl, hps⟩, hwl⟩, hwin⟩ := hcond
  simp only [Option.some.injEq, Prod.mk.injEq] at h
  obtain ⟨rfl, rfl⟩ := h
  have HPS := Aside0.mk hps
  have HWL := Aside0.mk hwl
  have HWI := Aside0.mk hwin
  have HW := Aside0.mk hwh
  clear hps hwl hwh hwin
  go_enter Try.func34, Try.ntmps34
  go_wp2_with (first
    | (go_at_call 13; refine (event_Calls.calls A0 c0 l0 cs 0 _ hr0 hc0 HC.out).mono ?_; rintro e w2 ⟨v2, rfl, ho2, hb2⟩; obtain ⟨A2, c2, rfl⟩ := Kd.S_slice ho2; have q1 : (w2.alloc (.cells #[.slice A2 cs.length c2] 24)).cell? ⟨w2.heap.size, 0, none⟩ = some (.slice A2 cs.length c2) := (blk_cell (blk_new w2 (.cells #[.slice A2 cs.length c2] 24)) 0).trans rfl; have hr2 := Kd.C_below hr0 hb2; have hcs := (Kd.S_reads' ho2).2.2; have hcc := (Kd.S_reads' ho2).2.1; have HB2 := Aside0.mk hb2; clear hb2 ho2)
    | (go_at_call 57; refine (event_places.calls 200002 A0 c0 l0 A2 c2 cs wh _ (Kd.C_alloc hr2 _) hc0 (Kd.C_alloc hcs _) hcc HW.out).mono ?_; rintro e w3 ⟨v3, rfl, ho3, hb3⟩; obtain ⟨A3, c3, rfl⟩ := Kd.R_slice ho3; have q2 := pw_cell_below hb3 q1; have hr3 := Kd.C_below (Kd.C_alloc hr2 _) hb3; have hcs3 := Kd.C_below (Kd.C_alloc hcs _) hb3; have hw3 := (Kd.R_reads' ho3).2.2; have HB3 := Aside0.mk (below_step (below_alloc HB2.out _) hb3); clear hb3 ho3)
    | (go_at_call 52; have q3 : (w3.alloc (.cells #[.slice A3 wh.length c3] 41)).cell? ⟨w3.heap.size, 0, none⟩ = some (.slice A3 wh.length c3) := (blk_cell (blk_new w3 (.cells #[.slice A3 wh.length c3] 41)) 0).trans rfl; refine (keptDone_calls A0 c0 l0 (.pointer (some ⟨w2.heap.size, 0, none⟩)) (.pointer (some ⟨w3.heap.size, 0, none⟩)) (doneP cs wh) _ (Kd.C_alloc hr3 _) hc0 hl HPS.out ?hp).mono ?_; (case hp => exact fun W hW i hi => (have hm : rd wh (i : Int) ∈ wh := (by unfold rd; rw [Int.toNat_natCast, List.getD_eq_getElem?_getD, List.getElem?_eq_getElem (by have := HWL.out; omega)]; exact List.getElem_mem _); doneP_calls A3 A2 c3 c2 cs wh w2.heap.size w3.heap.size W (pw_cell_below hW (pw_cell_below (below_alloc (Below.refl _ _) _) q2)) (pw_cell_below hW q3) (Kd.C_below (Kd.C_alloc hw3 _) hW) (Kd.C_below (Kd.C_alloc hcs3 _) hW) i (by have := HWL.out; omega) (HWI.out _ hm).1 (HWI.out _ hm).2)); rintro e w4 ⟨v4, rfl, ho4, hb4⟩; have HO4 := Aside0.mk (Kd.S_lower ho4 (below_alloc HB3.out _).size); have HB4 := Aside0.mk (below_step (below_alloc HB3.out _) hb4); clear ho4 hb4))
  go_ret2
  exact ⟨_, rfl, HO4.out, HB4.out⟩
end Go.Proofs.Ytagdkmcgepidoaa.P
