/- P.modelMemory_holds, part 37 of 37: the contracts of the Go functions that the law calls, its own walk, and its plain law, for every input that the statement speaks of. -/
import Derived.Test.YtanlnfcjdjamaaaMMe27
import Derived.Test.YtanlnfcjdjamaaaMMe35
set_option linter.unusedVariables false
set_option linter.unusedSimpArgs false
/- P13 -/
namespace Go.Proofs.Ytanlnfcjdjamaaa.P
open Go.RowKit Go.Proofs.YtanlnfcjdjamaaaW.PrintWords Go.Proofs.YtanlnfcjdjamaaaW.PrintLast Go.Proofs.YtanlnfcjdjamaaaW.PrintMore
theorem runF_lenM (m : List S51) (ops : List S25) : (runF m ops).1.length ≤ m.length + ops.length ∧ (runF m ops).2.1.length ≤ ops.length ∧ ∀ r ∈ (runF m ops).2.1, r.f3.length ≤ m.length + ops.length := by
  unfold runF
  split
  · simp
  · split
    · simp
    · exact ⟨(run_bounds ops m).1, Nat.le_of_eq (run_len ops m), (run_bounds ops m).2⟩
theorem modelMemory_pure : ModelMemoryPure := by
  intro m nn ops o0 o1 o2 o3 kk hh hm hn hops
  have hd := doOf_len m ⟨o0, o1, o2, o3⟩
  have hr := runF_lenM m ops
  have hsl := spL_len m.length m
  have hr2 := runF_lenM (spL m.length m) ops
  rw [hsl] at hr2
  have hol := of_len m
  have hpl : (partV m kk hh).1.length ≤ 300 := by
    unfold partV
    split
    · have : (insideL m kk hh).length ≤ m.length := List.length_filter_le _ _
      simp only; omega
    · simp
  obtain ⟨q, hq⟩ : ∃ q, q = doOf (runF m [⟨o0, o1, o2, o3⟩]) := ⟨_, rfl⟩
  obtain ⟨u, hu⟩ : ∃ u, u = runF m ops := ⟨_, rfl⟩
  obtain ⟨u2, hu2⟩ : ∃ u2, u2 = runF (spL m.length m) ops := ⟨_, rfl⟩
  rw [← hq] at hd
  rw [← hu] at hr
  rw [← hu2] at hr2
  obtain ⟨K1, h1⟩ := fixed_evW
  obtain ⟨K2, h2⟩ := rrun_ev m ops (by omega) (by omega)
  obtain ⟨K3, h3⟩ := rdo_ev m o0 o1 o2 o3 (by omega)
  obtain ⟨K4, h4⟩ := rpart_ev m (by omega) kk hh
  obtain ⟨K5, h5⟩ := mpart_ev m (by omega) kk hh
  obtain ⟨K6, h6⟩ := rof_ev m (by omega)
  obtain ⟨K7, h7⟩ := mdiff_ev m nn (by omega) (by omega)
  obtain ⟨K8, h8⟩ := mfind_ev m (by omega) kk
  obtain ⟨K9, h9⟩ := rrets_ev u.2.1 (by omega) (fun r hm => by have := hr.2.2 r hm; omega)
  obtain ⟨K10, h10⟩ := rret_ev q.2.1 q.2.2.1 q.2.2.2.1 q.2.2.2.2.1 q.2.1 q.2.2.1 q.2.2.2.1 q.2.2.2.2.1 (by omega)
  obtain ⟨K11, h11⟩ := rrun_ev (spL m.length m) ops (by omega) (by omega)
  obtain ⟨K12, h12⟩ := rrets_ev u2.2.1 (by omega) (fun r hm => by have := hr2.2.2 r hm; omega)
  have hK : ∃ K, K1 ≤ K ∧ K2 ≤ K ∧ K3 ≤ K ∧ K4 ≤ K ∧ K5 ≤ K ∧ K6 ≤ K ∧ K7 ≤ K ∧ K8 ≤ K ∧ K9 ≤ K ∧ K10 ≤ K ∧ K11 ≤ K ∧ K12 ≤ K ∧ 1001 ≤ K := ⟨K1 + K2 + K3 + K4 + K5 + K6 + K7 + K8 + K9 + K10 + K11 + K12 + 1001, by omega⟩
  obtain ⟨K, k1, k2, k3, k4, k5, k6, k7, k8, k9, k10, k11, k12, k13⟩ := hK
  exact ⟨K, u.1, u.2.1, u.2.2, q.1, q.2.1, q.2.2.1, q.2.2.2.1, q.2.2.2.2.1, q.2.2.2.2.2, (partV m kk hh).1, (partV m kk hh).2, ofL m, (diffV m nn).1, (diffV m nn).2, (findV m kk).1, (findV m kk).2.1, (findV m kk).2.2, u2.1, u2.2.1, u2.2.2,
    { fixed := h1 K k1
      small := by omega
      smalln := by omega
      rrun := (h2 K k2).trans (by rw [← hu])
      run := by unfold model_Run.f; rw [if_pos ⟨by omega, by omega⟩, ← hu]
      rdo := (h3 K k3).trans (by rw [← hq])
      do_ := by unfold model_Do.f; rw [if_pos (by omega), ← hq]
      rpart := h4 K k4
      part := h5 K k5
      rof := h6 K k6
      of_ := by unfold model_Of.f; rw [if_pos (by omega)]
      diff := h7 K k7
      find := h8 K k8
      same := fun l hl => same_all k13 l hl
      srets := h9 K k9
      sret := (h10 K k10).trans (by rw [sameR_refl])
      lens := ⟨by omega, by omega, by omega, by omega, by omega, by omega, fun r hm => by have := hr.2.2 r hm; omega⟩
      run2 := by unfold model_Run.f; rw [if_pos ⟨by omega, by omega⟩, ← hu2]
      rrun2 := (h11 K k11).trans (by rw [← hu2])
      srets2 := h12 K k12
      len2 := by omega }⟩
theorem modelMemory_holds : Rows.ModelMemoryUptoSaid := ModelMemory_of modelMemory_pure
end Go.Proofs.Ytanlnfcjdjamaaa.P
#print axioms Go.Proofs.Ytanlnfcjdjamaaa.P.modelMemory_holds
