/- P.weighMemory_holds, part 6 of 28: the contracts of the Go functions that the law calls, its own walk, and its plain law, for every input that the statement speaks of. -/
import Derived.Test.YtmmjkebboonnkaaMMe2
import Derived.Outline
set_option linter.unusedVariables false
set_option linter.unusedSimpArgs false
/- E1 -/
namespace Go.Proofs.Ytmmjkebboonnkaa.P
open Go.RowKit Go.Proofs.YtmmjkebboonnkaaW.PrintWords Go.Proofs.YtmmjkebboonnkaaW.PrintLast Go.Proofs.YtmmjkebboonnkaaW.PrintMore
theorem formed1_calls (i a : Int) (g : Nat) (w : World) (hc : w.cell? ⟨g, 0, none⟩ = some (.int .i64 a)) :
    Calls Try.prog 70 #[.int .i64 i, .pointer (some ⟨g, 0, none⟩)] w fun e w' => e = .returned (.bool (decide (1 ≤ i ∧ i < a))) ∧ w = w' := by
  by_cases h1 : 1 ≤ i
  · go_enter Try.func70, Try.ntmps70
    go_wp2
    go_ret
    simp [h1]
  · go_enter Try.func70, Try.ntmps70
    go_wp2
    go_ret
    simp; omega
theorem isLeaf_calls (a b c d l r : Int) (w : World) : Calls Try.prog 66 #[.agg #[.int .i64 a, .int .i64 b, .int .i64 c, .int .i64 d, .int .i64 l, .int .i64 r]] w fun e w' => e = .returned (.bool (decide (l = -1 ∧ r = -1))) ∧ w.alloc (.cells #[.int .i64 a, .int .i64 b, .int .i64 c, .int .i64 d, .int .i64 l, .int .i64 r] 49) = w' := by
  go_enter Try.func66, Try.ntmps66
  go_wp2
  all_goals
    go_ret
    exact ⟨by simp [*]; try rfl, by simp [*]⟩
def formedB (a0_0 a0_1 a0_2 a0_3 a0_4 a0_5 a1 : Int) : Bool :=
  decide ((0 ≤ a0_2 ∧ a0_2 ≤ 1000000) ∧ (a0_1 = 0 ∨ a0_1 = 1 ∧ a0_0 = 0 ∧ a0_3 = 0) ∧ ((a0_4 = -1 ∧ a0_5 = -1) ∨ (a0_3 = 0 ∧ (1 ≤ a0_4 ∧ a0_4 < a1) ∧ (1 ≤ a0_5 ∧ a0_5 < a1) ∧ a0_4 ≠ a0_5)))
def table_formed.f (a0_0 : Int) (a0_1 : Int) (a0_2 : Int) (a0_3 : Int) (a0_4 : Int) (a0_5 : Int) (a1 : Int) : Option (Bool) := some (formedB a0_0 a0_1 a0_2 a0_3 a0_4 a0_5 a1)
set_option maxHeartbeats 8000000 in
set_option maxRecDepth 100000 in
theorem table_formed.calls (a0_0 : Int) (a0_1 : Int) (a0_2 : Int) (a0_3 : Int) (a0_4 : Int) (a0_5 : Int) (a1 : Int) (r : Bool) (w : World) (h : table_formed.f a0_0 a0_1 a0_2 a0_3 a0_4 a0_5 a1 = some r) :
    Calls Try.prog 67 #[.agg #[.int .i64 a0_0, .int .i64 a0_1, .int .i64 a0_2, .int .i64 a0_3, .int .i64 a0_4, .int .i64 a0_5], .int .i64 a1] w fun e w' => e = .returned (.bool r) ∧ Below w.heap.size w w' := by
  obtain rfl : r = formedB a0_0 a0_1 a0_2 a0_3 a0_4 a0_5 a1 := (Option.some.inj h).symm
  clear h
  have hmf : ∀ (fn : Fn) (first cap : Array Value) (w : World), (Instr.makeFunc fn first cap).run Try.prog w = .ok (.func fn first cap) w := fun _ _ _ _ => rfl
  go_enter Try.func67, Try.ntmps67
  go_wp2_with (first | (go_at_call 66; refine (isLeaf_calls _ _ _ _ _ _ _).mono ?_; rintro e w' ⟨rfl, rfl⟩) | (go_at_call 70; refine (formed1_calls _ a1 _ _ ?hc).mono ?_; (case hc => go_simp); rintro e w' ⟨rfl, rfl⟩))
  all_goals
    go_ret
    refine ⟨?_, by repeat (first | exact Below.refl _ _ | refine Below.alloc ?_ (by first | (simp; done) | (simp; omega)) _)⟩
    refine congrArg (fun b => Ending.returned (.bool b)) ?_
    unfold formedB
    rw [Bool.eq_iff_iff]
    simp only [bne_iff_ne, bne_eq_false_iff_eq, decide_eq_true_eq, ne_eq, Bool.false_eq_true, false_iff, true_iff] at *
    omega
end Go.Proofs.Ytmmjkebboonnkaa.P
