/- P.weighMemory_holds, part 28 of 28: the contracts of the Go functions that the law calls, its own walk, and its plain law, for every input that the statement speaks of. -/
import Derived.Test.YtmmjkebboonnkaaMMe24
import Derived.Test.YtmmjkebboonnkaaMMe22
import Derived.Test.YtmmjkebboonnkaaMMe23
import Derived.Test.YtmmjkebboonnkaaMMe21
import Derived.Test.YtmmjkebboonnkaaMMe26
set_option linter.unusedVariables false
set_option linter.unusedSimpArgs false
/- P18 -/
namespace Go.Proofs.Ytmmjkebboonnkaa.P
open Go.RowKit Go.Proofs.YtmmjkebboonnkaaW.PrintWords Go.Proofs.YtmmjkebboonnkaaW.PrintLast Go.Proofs.YtmmjkebboonnkaaW.PrintMore
theorem faults_all (t : List S49) (ht : t.length ≤ 1048576) (key : Int) : ∃ (rs os : List Int) (e oe n ve fk fe : Int), rs.length ≤ 1000000 ∧ os.length ≤ 1000000 ∧ Ev (fun k => weigh_Reds.f k t) (rs, e) ∧ Ev (fun k => larchref17_Reds.f k t) (rs, e) ∧ Ev (fun k => weigh_Overs.f k t) (os, oe) ∧
    Ev (fun k => weigh_Violations.f k t) (n, ve) ∧ Ev (fun k => larchref17_Violations.f k t) (n, ve) ∧ Ev (fun k => weigh_First.f k t key) (fk, fe) := by
  rcases faults_both t ht with ⟨e, he, wR, rR, wO, rO, kR⟩ | ⟨l, lp, rs, os, S, hin, hlp, cT, kR, hrs, hos, hcase, wR, rR, wO, rO⟩
  · refine ⟨[], [], e, e, 0, e, 0, e, by simp, by simp, wR, rR, wO, ?_, ?_, ?_⟩
    · unfold weigh_Violations.f
      refine Ev.bind wR ?_
      simp only [if_neg he]
      exact Ev.const _
    · unfold larchref17_Violations.f
      refine Ev.bind rR ?_
      simp only [if_neg he]
      exact Ev.const _
    · unfold weigh_First.f
      refine Ev.bind wR ?_
      simp only [if_neg he]
      exact Ev.const _
  · have hrl : rs.length ≤ 100000 := by rw [hrs]; exact Nat.le_trans (sel_le _ _ _ _) hlp
    have hol : os.length ≤ 100000 := by rw [hos]; exact Nat.le_trans (sel_le _ _ _ _) hlp
    have hmo : ∀ x, x ∈ os ↔ x ∈ lp ∧ isOver t x = true := fun x => by rw [hos]; exact mem_sel0
    have hoi : ∀ x ∈ os, InT t x := fun x hx => hin x ((hmo x).1 hx).1
    obtain ⟨wV, rV⟩ := viol_both hoi hol wR rR wO rO
    exact ⟨rs, os, 0, 0, _, 0, _, 0, by omega, by omega, wR, rR, wO, wV, rV, (first_both S hin hlp cT kR hrs hos wR wO key).1⟩
theorem weighMemory_pure : WeighMemoryPure := by
  intro l0 l1 a2 ht hw
  obtain ⟨want, f, sT, sR, hsl, -⟩ := sums_both l0 ht
  obtain ⟨reds, ov, rf, oe, -, -, fp, fe, hrl, hol, wR, rR, wO, -, -, wF⟩ := faults_all l0 ht a2
  obtain ⟨-, -, -, -, vm, ve, -, -, -, -, -, -, -, wV, rV, -⟩ := faults_all (spW l0.length l0) (by rw [spW_len]; exact ht) 0
  obtain ⟨hv, g, hT, hR, hvl, -⟩ := heavy_both l0 l1 ht hw
  obtain ⟨so, se, oT, -⟩ := sound_both l0 ht
  obtain ⟨fi, fie, fT, -⟩ := fits_both l0 ht
  obtain ⟨K1, h1⟩ := fixed_ev
  obtain ⟨K2, h2⟩ := sT
  obtain ⟨K3, h3⟩ := sR
  obtain ⟨K4, h4⟩ := wR
  obtain ⟨K5, h5⟩ := rR
  obtain ⟨K6, h6⟩ := wO
  obtain ⟨K7, h7⟩ := wF
  obtain ⟨K8, h8⟩ := wV
  obtain ⟨K9, h9⟩ := rV
  obtain ⟨K10, h10⟩ := hT
  obtain ⟨K11, h11⟩ := hR
  obtain ⟨K12, h12⟩ := oT
  obtain ⟨K13, h13⟩ := fT
  obtain ⟨K14, h14⟩ := sameInts_ev want (by omega)
  obtain ⟨K15, h15⟩ := sameInts_ev reds (by omega)
  obtain ⟨K16, h16⟩ := same_ev hv (by omega)
  obtain ⟨K17, h17⟩ := same_ev l0 (by omega)
  obtain ⟨K18, h18⟩ := sameInts_ev l1 (by omega)
  obtain ⟨K19, h19⟩ := same_ev (spW l0.length l0) (by rw [spW_len]; omega)
  have hK : ∃ K, K1 ≤ K ∧ K2 ≤ K ∧ K3 ≤ K ∧ K4 ≤ K ∧ K5 ≤ K ∧ K6 ≤ K ∧ K7 ≤ K ∧ K8 ≤ K ∧ K9 ≤ K ∧ K10 ≤ K ∧ K11 ≤ K ∧ K12 ≤ K ∧ K13 ≤ K ∧ K14 ≤ K ∧ K15 ≤ K ∧ K16 ≤ K ∧ K17 ≤ K ∧ K18 ≤ K ∧ K19 ≤ K := ⟨K1 + K2 + K3 + K4 + K5 + K6 + K7 + K8 + K9 + K10 + K11 + K12 + K13 + K14 + K15 + K16 + K17 + K18 + K19, by omega⟩
  obtain ⟨K, k1, k2, k3, k4, k5, k6, k7, k8, k9, k10, k11, k12, k13, k14, k15, k16, k17, k18, k19⟩ := hK
  exact ⟨K, want, f, reds, rf, hv, g, ov, oe, so, se, fi, fie, fp, fe, vm, ve,
    { fixed := h1 K k1
      rsums := h3 K k3
      rreds := h5 K k5
      rheavy := h11 K k11
      sums := h2 K k2
      preds := h4 K k4
      overs := h6 K k6
      heavy := h10 K k10
      sound := h12 K k12
      fits := h13 K k13
      first := h7 K k7
      si1 := h14 K k14
      si2 := h15 K k15
      sh := h16 K k16
      st := h17 K k17
      sw := h18 K k18
      viol := h8 K k8
      rviol := h9 K k9
      sn := h19 K k19
      lens := ⟨by omega, hrl, hol⟩ }⟩
theorem weighMemory_holds : Rows.WeighMemoryUptoSaid := WeighMemory_of weighMemory_pure
end Go.Proofs.Ytmmjkebboonnkaa.P
#print axioms Go.Proofs.Ytmmjkebboonnkaa.P.weighMemory_holds
