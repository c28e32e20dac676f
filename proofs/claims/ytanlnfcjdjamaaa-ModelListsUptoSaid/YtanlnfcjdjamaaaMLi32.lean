/- P.modelLists_holds, part 33 of 33: the contracts of the Go functions that the law calls, its own walk, and its plain law, for every input that the statement speaks of. -/
import Derived.Test.YtanlnfcjdjamaaaMLi27
import Derived.Test.YtanlnfcjdjamaaaMLi31
set_option linter.unusedVariables false
set_option linter.unusedSimpArgs false
/- P7 -/
namespace Go.Proofs.Ytanlnfcjdjamaaa.P
open Go.RowKit Go.Proofs.YtanlnfcjdjamaaaW.PrintWords Go.Proofs.YtanlnfcjdjamaaaW.PrintLast Go.Proofs.YtanlnfcjdjamaaaW.PrintMore
theorem fixed_evL : Ev (fun k => larchlaw06_fixed.f k) true := Ev.of_mono 12 (by kernel_rfl) larchlaw06_fixed.mono
theorem same_reflL (l : List S51) (hl : l.length < 1000000000) : Ev (fun k => larchref06_Same.f k l l) true := (rsame_ev l l hl).congr' (decide_eq_true rfl).symm (fun _ => rfl)
theorem inside_len (l : List S51) (lo hi : Int) : (insideL l lo hi).length ≤ l.length := List.length_filter_le _ _
theorem modelLists_pure : ModelListsPure := by
  intro m nn o0 o1 o2 o3 b q1 q2 ps kk hh hm hn hps
  obtain ⟨ch, hc1, hc2⟩ := changes_both o0
  have hkd := kind_val ⟨o0, 0, 0, 0⟩
  have hkr := rkind_val ⟨o0, 0, 0, 0⟩
  have hol := of_len m
  have hpl : (partV m kk hh).1.length ≤ 300 := by
    unfold partV
    split
    · have := inside_len m kk hh; simp only; omega
    · simp
  obtain ⟨K1, h1⟩ := fixed_evL
  obtain ⟨K2, h2⟩ := mcheck_ev m (by omega)
  obtain ⟨K3, h3⟩ := rcheck_ev m (by omega)
  obtain ⟨K4, h4⟩ := mplain_ev o0 o1 o2 o3
  obtain ⟨K5, h5⟩ := rplain_ev o0 o1 o2 o3
  obtain ⟨K6, h6⟩ := rof_ev m (by omega)
  obtain ⟨K7, h7⟩ := same_reflL (ofL m) (by omega)
  obtain ⟨K8, h8⟩ := mfind_ev m (by omega) kk
  obtain ⟨K9, h9⟩ := rfind_ev m (by omega) kk
  obtain ⟨K10, h10⟩ := mpart_ev m (by omega) kk hh
  obtain ⟨K11, h11⟩ := rpart_ev m (by omega) kk hh
  obtain ⟨K12, h12⟩ := same_reflL (partV m kk hh).1 (by omega)
  obtain ⟨K13, h13⟩ := mdiff_ev m nn (by omega) (by omega)
  obtain ⟨K14, h14⟩ := rdiff_ev m nn (by omega) (by omega)
  obtain ⟨K15, h15⟩ := msame_ev m nn (by omega)
  obtain ⟨K16, h16⟩ := rsame_ev m nn (by omega)
  obtain ⟨K17, h17⟩ := mret_ev b q1 q2 ps b q1 q2 nn (by omega)
  obtain ⟨K18, h18⟩ := rret_ev b q1 q2 ps b q1 q2 nn (by omega)
  obtain ⟨K19, h19⟩ := msame_ev m m (by omega)
  obtain ⟨K20, h20⟩ := mret_ev b q1 q2 nn b q1 q2 nn (by omega)
  have hK : ∃ K, K1 ≤ K ∧ K2 ≤ K ∧ K3 ≤ K ∧ K4 ≤ K ∧ K5 ≤ K ∧ K6 ≤ K ∧ K7 ≤ K ∧ K8 ≤ K ∧ K9 ≤ K ∧ K10 ≤ K ∧ K11 ≤ K ∧ K12 ≤ K ∧ K13 ≤ K ∧ K14 ≤ K ∧ K15 ≤ K ∧ K16 ≤ K ∧ K17 ≤ K ∧ K18 ≤ K ∧ K19 ≤ K ∧ K20 ≤ K := ⟨K1 + K2 + K3 + K4 + K5 + K6 + K7 + K8 + K9 + K10 + K11 + K12 + K13 + K14 + K15 + K16 + K17 + K18 + K19 + K20, by omega⟩
  obtain ⟨K, k1, k2, k3, k4, k5, k6, k7, k8, k9, k10, k11, k12, k13, k14, k15, k16, k17, k18, k19, k20⟩ := hK
  exact ⟨K, _, _, _, _, _, _, ch, ofL m, (findV m kk).1, (findV m kk).2.1, (findV m kk).2.2, (partV m kk hh).1, (partV m kk hh).2, (diffV m nn).1, (diffV m nn).2, _, _,
    ⟨h1 K k1, by omega, by omega, h2 K k2, h3 K k3, hkd, hkr, h4 K k4, h5 K k5, hc1, hc2, by unfold model_Of.f; rw [if_pos (by omega)], h6 K k6, h7 K k7, h8 K k8, h9 K k9, h10 K k10, h11 K k11, h12 K k12, h13 K k13, h14 K k14, h15 K k15, h16 K k16, h17 K k17, h18 K k18, (h19 K k19).trans (by rw [decide_eq_true rfl]), (h20 K k20).trans (by rw [sameR_refl])⟩⟩
theorem modelLists_holds : Rows.ModelListsUptoSaid := ModelLists_of modelLists_pure
end Go.Proofs.Ytanlnfcjdjamaaa.P
#print axioms Go.Proofs.Ytanlnfcjdjamaaa.P.modelLists_holds
