/- P.eventApart_holds, part 19 of 41: the contracts of the Go functions that the law calls, its own walk, and its plain law, for every input that the statement speaks of. -/
import Derived.Test.YtagdkmcgepidoaaMAp9
import Derived.Test.YtagdkmcgepidoaaMAp14
set_option linter.unusedVariables false
set_option linter.unusedSimpArgs false
/- EC -/
namespace Go.Proofs.Ytagdkmcgepidoaa.P
open Go.RowKit Go.Proofs.YtagdkmcgepidoaaW.PrintWords Go.Proofs.YtagdkmcgepidoaaW.PrintLast Go.Proofs.YtagdkmcgepidoaaW.PrintMore
def cells38 (x : S38) (v : Value) : Array Value := #[.int .i64 x.f0, .int .i64 x.f1.f0, .int .i64 x.f1.f1, .int .i64 x.f1.f2, .int .i64 x.f1.f3, .bool x.f2.f0, .int .i64 x.f2.f1, .int .i64 x.f2.f2, v, .int .i64 x.f3, .int .i64 x.f4]
def aheadB (a b : S38) : Bool := decide (0 ≤ a.f4) && decide (a.f4 < b.f3)
set_option maxHeartbeats 8000000 in
set_option maxRecDepth 100000 in
theorem ahead_calls (a b : S38) (va vb : Value) (w : World) : Calls Try.prog 47 #[.agg #[.int .i64 a.f0, .int .i64 a.f1.f0, .int .i64 a.f1.f1, .int .i64 a.f1.f2, .int .i64 a.f1.f3, .bool a.f2.f0, .int .i64 a.f2.f1, .int .i64 a.f2.f2, va, .int .i64 a.f3, .int .i64 a.f4], .agg #[.int .i64 b.f0, .int .i64 b.f1.f0, .int .i64 b.f1.f1, .int .i64 b.f1.f2, .int .i64 b.f1.f3, .bool b.f2.f0, .int .i64 b.f2.f1, .int .i64 b.f2.f2, vb, .int .i64 b.f3, .int .i64 b.f4]] w fun e w' => e = .returned (.bool (aheadB a b)) ∧ (w.alloc (.cells (cells38 a va) 38)).alloc (.cells (cells38 b vb) 38) = w' := by
  have hu38 := Try.underlying38
  unfold aheadB cells38
  go_enter Try.func47, Try.ntmps47
  go_wp2
  all_goals
    go_ret
    exact ⟨by first | (simp [*]; done) | (simp [*]; omega), by simp [*]⟩
def pendB (a : S38) : Bool := decide (a.f4 < 0)
set_option maxHeartbeats 8000000 in
set_option maxRecDepth 100000 in
theorem pend_calls (a : S38) (va : Value) (w : World) : Calls Try.prog 51 #[.agg #[.int .i64 a.f0, .int .i64 a.f1.f0, .int .i64 a.f1.f1, .int .i64 a.f1.f2, .int .i64 a.f1.f3, .bool a.f2.f0, .int .i64 a.f2.f1, .int .i64 a.f2.f2, va, .int .i64 a.f3, .int .i64 a.f4]] w fun e w' => e = .returned (.bool (pendB a)) ∧ w.alloc (.cells (cells38 a va) 38) = w' := by
  have hu38 := Try.underlying38
  unfold pendB cells38
  go_enter Try.func51, Try.ntmps51
  go_wp2
  all_goals
    go_ret
    exact ⟨by first | (simp [*]; done) | (simp [*]; omega), by simp [*]⟩
def idxGo (xs : List S38) : Nat → Nat → Int
  | 0, _ => -1
  | d + 1, j => if pendB (J38 xs (j : Int)) = true then (j : Int) else idxGo xs d (j + 1)
set_option maxHeartbeats 8000000 in
set_option maxRecDepth 100000 in
theorem index_calls (A0 : Option Addr) (c0 : Nat) (l0 : List S38) (w : World) (hr0 : Kd.C k38 w A0 l0.length l0) : Calls Try.prog 70 #[.slice A0 l0.length c0, .func (.func 51) #[] #[]] w fun e w' => e = .returned (.int .i64 (idxGo l0 l0.length 0)) ∧ Below w.heap.size w w' := by
  have hu38 := Try.underlying38
  have hmx : l0.length ≤ 9223372036854775807 := hr0.2.1
  obtain ⟨r, hr⟩ : ∃ r, idxGo l0 l0.length 0 = r := ⟨_, rfl⟩
  rw [hr]
  have HR := Aside0.mk hr
  clear hr
  go_enter Try.func70, Try.ntmps70
  go_wp2
  go_loopw [8] (fun v8 W => ∃ (j : Nat), v8 = .int .i64 (j : Int) ∧ j ≤ l0.length ∧ Aside0 (idxGo l0 (l0.length - j) j = r) ∧ Aside0 (Below w.heap.size w W)) (fun v8 _ => l0.length - (intOf v8).toNat)
  case atStart => exact ⟨0, rfl, Nat.zero_le _, HR, ⟨Below.refl _ _⟩⟩
  case round =>
    obtain ⟨j, rfl, hj, HG, HB⟩ := hrel
    by_cases hlt : j < l0.length
    · have hg := HG.out
      rw [show l0.length - j = (l0.length - (j + 1)) + 1 by omega] at hg
      simp only [idxGo] at hg
      obtain ⟨n, hn⟩ : ∃ n, n = J38 l0 (j : Int) := ⟨_, rfl⟩
      rw [← hn] at hg
      obtain ⟨ad2, A8, c8, ea, y0, y1, y2, y3, y4, y5, y6, y7, y8, y9, y10, hc9, hr9⟩ := at_T38 (Kd.C_below hr0 HB.out) (j : Int) (by omega) (by omega)
      cases ea
      rw [← hn] at y0 y1 y2 y3 y4 y5 y6 y7 y8 y9 y10 hc9 hr9
      simp only [Int.toNat_natCast] at y0 y1 y2 y3 y4 y5 y6 y7 y8 y9 y10
      clear hn HG hr9 hc9
      obtain ⟨b, hb⟩ : ∃ b, pendB n = b := ⟨_, rfl⟩
      rw [hb] at hg
      have NB := Aside0.mk hb
      clear hb
      cases b with
      | true =>
        rw [if_pos rfl] at hg
        subst hg
        go_wp2_with (go_at_call 51; refine (pend_calls n _ _).mono ?_; rintro e w' ⟨rfl, rfl⟩; rw [NB.out])
        go_ret
        exact ⟨rfl, below_alloc HB.out _⟩
      | false =>
        rw [if_neg (by decide)] at hg
        have HG := Aside0.mk hg
        clear hg
        go_wp2_with (go_at_call 51; refine (pend_calls n _ _).mono ?_; rintro e w' ⟨rfl, rfl⟩; rw [NB.out])
        go_roundw
        case rel => exact ⟨j + 1, by go_num, by omega, HG, ⟨below_alloc HB.out _⟩⟩
        case measure => simp [intOf]; omega
    · go_wp2
      go_ret
      have hg := HG.out
      rw [show l0.length - j = 0 by omega] at hg
      simp only [idxGo] at hg
      subst hg
      exact ⟨rfl, HB.out⟩
set_option maxHeartbeats 8000000 in
set_option maxRecDepth 100000 in
theorem delete_none (A0 : Option Addr) (c0 : Nat) (l0 : List S38) (w : World) (hr0 : Kd.C k38 w A0 l0.length l0) (hn : idxGo l0 l0.length 0 = -1) : Calls Try.prog 50 #[.slice A0 l0.length c0, .func (.func 51) #[] #[]] w fun e w' => e = .returned (.slice A0 l0.length c0) ∧ Below w.heap.size w w' := by
  go_enter Try.func50, Try.ntmps50
  go_wp2_with (go_at_call 70; refine (index_calls A0 c0 l0 w hr0).mono ?_; rintro e w' ⟨rfl, hb⟩; rw [hn])
  go_ret
  exact ⟨rfl, hb⟩
end Go.Proofs.Ytagdkmcgepidoaa.P
