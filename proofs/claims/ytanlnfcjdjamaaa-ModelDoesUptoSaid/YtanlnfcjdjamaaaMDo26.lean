/- P.modelDoes_holds, part 27 of 27: the contracts of the Go functions that the law calls, its own walk, and its plain law, for every input that the statement speaks of. -/
import Derived.Test.YtanlnfcjdjamaaaMDo21
import Derived.Test.YtanlnfcjdjamaaaMDo25
set_option linter.unusedVariables false
set_option linter.unusedSimpArgs false
/- P2 -/
namespace Go.Proofs.Ytanlnfcjdjamaaa.P
open Go.RowKit Go.Proofs.YtanlnfcjdjamaaaW.PrintWords Go.Proofs.YtanlnfcjdjamaaaW.PrintLast Go.Proofs.YtanlnfcjdjamaaaW.PrintMore
theorem fixed_ev : Ev (fun k => larchlaw06_fixed.f k) true := Ev.of_mono 12 (by kernel_rfl) larchlaw06_fixed.mono
theorem same_refl (l : List S51) (hl : l.length < 1000000000) : Ev (fun k => larchref06_Same.f k l l) true := (rsame_ev l l hl).congr' (decide_eq_true rfl).symm (fun _ => rfl)
theorem runF_len (m : List S51) (ops : List S25) : (runF m ops).1.length ≤ m.length + ops.length ∧ (runF m ops).2.1.length ≤ ops.length ∧ ∀ r ∈ (runF m ops).2.1, r.f3.length ≤ m.length + ops.length := by
  unfold runF
  split
  · simp
  · split
    · simp
    · exact ⟨(run_bounds ops m).1, Nat.le_of_eq (run_len ops m), (run_bounds ops m).2⟩
theorem modelDoes_pure : ModelDoesPure := by
  intro m ops o0 o1 o2 o3 b q1 q2 ps hm hops hps
  have hd := doOf_len m ⟨o0, o1, o2, o3⟩
  have hr := runF_len m ops
  obtain ⟨q, hq⟩ : ∃ q, q = doOf (runF m [⟨o0, o1, o2, o3⟩]) := ⟨_, rfl⟩
  obtain ⟨u, hu⟩ : ∃ u, u = runF m ops := ⟨_, rfl⟩
  rw [← hq] at hd
  rw [← hu] at hr
  obtain ⟨K1, h1⟩ := fixed_ev
  obtain ⟨K2, h2⟩ := rdo_ev m o0 o1 o2 o3 (by omega)
  obtain ⟨K3, h3⟩ := same_refl q.1 (by omega)
  obtain ⟨K4, h4⟩ := rret_ev q.2.1 q.2.2.1 q.2.2.2.1 q.2.2.2.2.1 q.2.1 q.2.2.1 q.2.2.2.1 q.2.2.2.2.1 (by omega)
  obtain ⟨K5, h5⟩ := rrun_ev m ops (by omega) (by omega)
  obtain ⟨K6, h6⟩ := same_refl u.1 (by omega)
  obtain ⟨K7, h7⟩ := rrets_ev u.2.1 (by omega) (fun r hm => by have := hr.2.2 r hm; omega)
  obtain ⟨K8, h8⟩ := mfit_ev m o0 o1 o2 o3 b q1 q2 ps (by omega)
  obtain ⟨K9, h9⟩ := rfit_ev m o0 o1 o2 o3 b q1 q2 ps (by omega) (by omega)
  obtain ⟨K10, h10⟩ := mfit_ev m o0 o1 o2 o3 q.2.1 q.2.2.1 q.2.2.2.1 q.2.2.2.2.1 (by omega)
  obtain ⟨K11, h11⟩ := rfit_ev m o0 o1 o2 o3 q.2.1 q.2.2.1 q.2.2.2.1 q.2.2.2.2.1 (by omega) (by omega)
  have hK : ∃ K, K1 ≤ K ∧ K2 ≤ K ∧ K3 ≤ K ∧ K4 ≤ K ∧ K5 ≤ K ∧ K6 ≤ K ∧ K7 ≤ K ∧ K8 ≤ K ∧ K9 ≤ K ∧ K10 ≤ K ∧ K11 ≤ K := ⟨K1 + K2 + K3 + K4 + K5 + K6 + K7 + K8 + K9 + K10 + K11, by omega⟩
  obtain ⟨K, k1, k2, k3, k4, k5, k6, k7, k8, k9, k10, k11⟩ := hK
  refine ⟨K, q.1, q.2.1, q.2.2.1, q.2.2.2.1, q.2.2.2.2.1, q.2.2.2.2.2, u.1, u.2.1, u.2.2, (fitL m o0 o1 o2 o3 b q1 q2 ps).1, (fitL m o0 o1 o2 o3 b q1 q2 ps).2, (fitL m o0 o1 o2 o3 q.2.1 q.2.2.1 q.2.2.2.1 q.2.2.2.2.1).1, (fitL m o0 o1 o2 o3 q.2.1 q.2.2.1 q.2.2.2.1 q.2.2.2.2.1).2, ?_⟩
  exact ⟨h1 K k1, by omega, by omega, by unfold model_Do.f; rw [if_pos (by omega), ← hq], (h2 K k2).trans (by rw [← hq]), h3 K k3, (h4 K k4).trans (by rw [sameR_refl]), by unfold model_Run.f; rw [if_pos ⟨by omega, by omega⟩, ← hu], (h5 K k5).trans (by rw [← hu]), h6 K k6, h7 K k7, h8 K k8, h9 K k9, h10 K k10, h11 K k11⟩
theorem modelDoes_holds : Rows.ModelDoesUptoSaid := ModelDoes_of modelDoes_pure
end Go.Proofs.Ytanlnfcjdjamaaa.P
#print axioms Go.Proofs.Ytanlnfcjdjamaaa.P.modelDoes_holds
