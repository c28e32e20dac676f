/- P.modelLaws_holds, part 35 of 35: the contracts of the Go functions that the law calls, its own walk, and its plain law, for every input that the statement speaks of. -/
import Derived.Test.YtanlnfcjdjamaaaMLa26
import Derived.Test.YtanlnfcjdjamaaaMLa33
set_option linter.unusedVariables false
set_option linter.unusedSimpArgs false
/- P11 -/
namespace Go.Proofs.Ytanlnfcjdjamaaa.P
open Go.RowKit Go.Proofs.YtanlnfcjdjamaaaW.PrintWords Go.Proofs.YtanlnfcjdjamaaaW.PrintLast Go.Proofs.YtanlnfcjdjamaaaW.PrintMore
theorem wf64 {k : Int} (h : (Lit.int .i64 k).wf = true) : -9223372036854775808 ≤ k ∧ k ≤ 9223372036854775807 := by
  simp [Lit.wf, IntKind.signed, IntKind.bits, IntKind.min, IntKind.max] at h
  omega
theorem ops_all {ops more : List S25} : (ops ++ more).all okK = (ops.all okK && more.all okK) := List.all_append
theorem modelLaws_pure : ModelLawsPure := by
  intro m ops more o0 o1 o2 o3 kk hh hm hops hmore hkk hkm
  have hkw := wf64 hkk
  obtain ⟨fl, hfl⟩ : ∃ fl, fl = ofL m := ⟨_, rfl⟩
  have hu : Up fl := by rw [hfl]; exact of_up m
  have hlen : fl.length ≤ 300 := by have := of_len m; rw [hfl]; omega
  have hkf : ∀ p ∈ fl, -9223372036854775808 ≤ p.f0 ∧ p.f0 ≤ 9223372036854775807 := fun p hp => by
    rw [hfl] at hp
    obtain ⟨q, hq, he⟩ := of_key hp
    rw [← he]
    exact wf64 (hkm q hq)
  have hof : model_Of.f m = some fl := by unfold model_Of.f; rw [if_pos (by omega), hfl]
  have hchk := (chk_up fl).2 hu
  obtain ⟨K1, h1⟩ := fixed_evW
  obtain ⟨K2, h2⟩ := mcheck_up fl (by omega) hchk
  have hkd := kind_val ⟨o0, 0, 0, 0⟩
  by_cases ho : okK ⟨o0, o1, o2, o3⟩ = true
  rotate_left
  · have ho' : okK ⟨o0, 0, 0, 0⟩ = false := by
      have : okK ⟨o0, o1, o2, o3⟩ = false := by simpa using ho
      exact this
    rw [ho'] at hkd
    exact ⟨K1 + K2, fl, .inl ⟨5, h1 _ (by omega), by omega, hof, by omega, h2 _ (by omega), hkd, by decide⟩⟩
  have ho' : okK ⟨o0, 0, 0, 0⟩ = true := ho
  rw [ho'] at hkd
  clear hfl hkm hkk
  -- the operations
  have hnl := doL_len fl ⟨o0, o1, o2, o3⟩
  have hnu := do_up hu ho
  obtain ⟨nl, hnl'⟩ : ∃ nl, nl = (doL fl ⟨o0, o1, o2, o3⟩).1 := ⟨_, rfl⟩
  have hpu := do_up hu (o := ⟨2, kk, hh, 0⟩) rfl
  have hpl := doL_len fl ⟨2, kk, hh, 0⟩
  obtain ⟨pg1, pg2, pg3, pg4, pg5⟩ := put_get fl hu kk hh
  obtain ⟨pl, hpl'⟩ : ∃ pl, pl = (doL fl ⟨2, kk, hh, 0⟩).1 := ⟨_, rfl⟩
  obtain ⟨pr, hpr'⟩ : ∃ pr, pr = (doL fl ⟨2, kk, hh, 0⟩).2 := ⟨_, rfl⟩
  have hgu := do_up hpu (o := ⟨4, kk, 0, 0⟩) rfl
  obtain ⟨gl, hgl'⟩ : ∃ gl, gl = (doL (doL fl ⟨2, kk, hh, 0⟩).1 ⟨4, kk, 0, 0⟩).1 := ⟨_, rfl⟩
  have hD19 := mdo_val hu (by omega) ⟨2, kk, hh, 0⟩ rfl
  have hD21 := mdo_val hu (by omega) ⟨1, kk, 0, 0⟩ rfl
  have hD20 := mdo_val hpu (by omega) ⟨1, kk, 0, 0⟩ rfl
  have hD22 := mdo_val hpu (by omega) ⟨4, kk, 0, 0⟩ rfl
  have hD23 := mdo_val hgu (by have := doL_len (doL fl ⟨2, kk, hh, 0⟩).1 ⟨4, kk, 0, 0⟩; omega) ⟨1, kk, 0, 0⟩ rfl
  have hD16 := mdo_val hu (by omega) ⟨o0, o1, o2, o3⟩ ho
  rw [do_same (doL (doL fl ⟨2, kk, hh, 0⟩).1 ⟨4, kk, 0, 0⟩).1 ⟨1, kk, 0, 0⟩ (by simp), pg4] at hD23
  rw [pg3] at hD22
  rw [pg1] at hD20
  rw [do_same fl ⟨1, kk, 0, 0⟩ (by simp), ← pg2] at hD21
  rw [← hpl'] at hgl'
  simp only [← hnl', ← hpl', ← hpr', ← hgl'] at hD16 hD19 hD20 hD21 hD22 hD23 hnl hnu hpu hgu hpl pg5
  have hD27 := mdo_val hu (by omega) ⟨9, -9223372036854775808, 0, 9223372036854775807⟩ rfl
  rw [do_range fl hu, inside_all fl hkf] at hD27
  have hD28 := mdo_val hu (by omega) ⟨7, 0, 0, 0⟩ rfl
  rw [do_min] at hD28
  have hD29 := mdo_val hu (by omega) ⟨8, 0, 0, 0⟩ rfl
  rw [do_max] at hD29
  have hD30 := mdo_val hu (by omega) ⟨5, kk, 0, 0⟩ rfl
  rw [do_next fl hu] at hD30
  have hD31 := mdo_val hu (by omega) ⟨6, kk, 0, 0⟩ rfl
  rw [do_back fl hu] at hD31
  have hD36 := mdo_val hu (by omega) ⟨9, kk + 1, 0, 9223372036854775807⟩ rfl
  rw [do_range fl hu, inside_above fl (fun p hp => (hkf p hp).2)] at hD36
  have hD39 := mdo_val hu (by omega) ⟨9, -9223372036854775808, 0, kk - 1⟩ rfl
  rw [do_range fl hu, inside_below fl (fun p hp => (hkf p hp).1)] at hD39
  obtain ⟨ab, hab⟩ : ∃ ab, ab = fl.filter (fun p => decide (kk < p.f0)) := ⟨_, rfl⟩
  obtain ⟨be, hbe⟩ : ∃ be, be = fl.filter (fun p => decide (p.f0 < kk)) := ⟨_, rfl⟩
  have hbl : be.length ≤ fl.length := by rw [hbe]; exact List.length_filter_le _ _
  -- runs
  have hrun : ∀ (l : List S51) (os : List S25), Up l → l.length ≤ 10000 → os.length ≤ 10000 → model_Run.f l os = some (if os.all okK then ((runL l os).1, (runL l os).2, 0) else ([], [], 5)) := fun l os hl h1 h2 => by
    unfold model_Run.f
    rw [if_pos ⟨by omega, by omega⟩, runF_up os ((chk_up l).2 hl)]
  have hR1 := hrun fl (ops ++ more) hu (by omega) (by rw [List.length_append]; omega)
  have hR2 := hrun fl ops hu (by omega) (by omega)
  have hb1 := run_bounds (ops ++ more) fl
  have hb2 := run_bounds ops fl
  have hl1 := run_len (ops ++ more) fl
  have hl2 := run_len ops fl
  rw [List.length_append] at hb1 hl1
  obtain ⟨K3, h3⟩ := mcheck_up nl (by omega) ((chk_up nl).2 hnu)
  obtain ⟨K4, h4⟩ := same_reflW fl (by omega)
  obtain ⟨K5, h5⟩ := rret_ev pr.f0 pr.f1 pr.f2 pr.f3 pr.f0 pr.f1 pr.f2 pr.f3 (by rw [hpr']; have := (do_ps fl ⟨2, kk, hh, 0⟩); omega)
  rw [sameR_refl] at h5
  obtain ⟨K6, h6⟩ := end_first fl
  obtain ⟨K7, h7⟩ := end_last fl
  obtain ⟨K8, h8⟩ := end_first ab
  obtain ⟨K9, h9⟩ := end_last be
  obtain ⟨K10, h10⟩ := same_reflW (runL fl (ops ++ more)).1 (by have := hb1.1; omega)
  obtain ⟨K11, h11⟩ := rrets_ev (runL fl (ops ++ more)).2 (by omega) (fun r hr => by have := hb1.2 r hr; omega)
  rw [← hab] at hD30 hD36
  rw [← hbe] at hD31 hD39
  have hK : ∃ K, K1 ≤ K ∧ K2 ≤ K ∧ K3 ≤ K ∧ K4 ≤ K ∧ K5 ≤ K ∧ K6 ≤ K ∧ K7 ≤ K ∧ K8 ≤ K ∧ K9 ≤ K ∧ K10 ≤ K ∧ K11 ≤ K := ⟨K1 + K2 + K3 + K4 + K5 + K6 + K7 + K8 + K9 + K10 + K11, by omega⟩
  obtain ⟨K, k1, k2, k3, k4, k5, k6, k7, k8, k9, k10, k11⟩ := hK
  have hchg := changes_valW o0
  obtain ⟨q1, hq1⟩ : ∃ q, q = (if (ops ++ more).all okK then ((runL fl (ops ++ more)).1, (runL fl (ops ++ more)).2, (0 : Int)) else ([], [], 5)) := ⟨_, rfl⟩
  obtain ⟨q2, hq2⟩ : ∃ q, q = (if ops.all okK then ((runL fl ops).1, (runL fl ops).2, (0 : Int)) else ([], [], 5)) := ⟨_, rfl⟩
  rw [← hq1] at hR1
  rw [← hq2] at hR2
  refine ⟨K, fl, .inr ⟨q1.1, q1.2.1, q1.2.2, q2.1, q2.2.1, q2.2.2, nl, (doL fl ⟨o0, o1, o2, o3⟩).2.f0, (doL fl ⟨o0, o1, o2, o3⟩).2.f1, (doL fl ⟨o0, o1, o2, o3⟩).2.f2, (doL fl ⟨o0, o1, o2, o3⟩).2.f3, decide (2 ≤ o0 ∧ o0 ≤ 4), pl, pr.f0, pr.f1, pr.f2, pr.f3, gl, [], fl, headR fl, optR zR fl.getLast?, headR ab, optR zR be.getLast?, if kk < 9223372036854775807 then ab else [], if -9223372036854775808 < kk then be else [], ?_⟩⟩
  have ha0 : ¬ kk < 9223372036854775807 → ab = [] := fun h => by
    rw [hab]
    exact List.filter_eq_nil_iff.2 (fun p hp => by have := (hkf p hp).2; simp; omega)
  have hb0 : ¬ -9223372036854775808 < kk → be = [] := fun h => by
    rw [hbe]
    exact List.filter_eq_nil_iff.2 (fun p hp => by have := (hkf p hp).1; simp; omega)
  have ha1 : (if kk < 9223372036854775807 then ab else []) = ab := by
    split
    · rfl
    · exact (ha0 (by assumption)).symm
  have hb1' : (if -9223372036854775808 < kk then be else []) = be := by
    split
    · rfl
    · exact (hb0 (by assumption)).symm
  rw [ha1, hb1']
  have hsm : ∀ (os : List S25) (q : List S51 × List S27 × Int), q = (if os.all okK then ((runL fl os).1, (runL fl os).2, (0 : Int)) else ([], [], 5)) → os.length ≤ 600 → q.1.length ≤ 900 ∧ q.2.1.length ≤ 600 := fun os q hq hlo => by
    have e1 := (run_bounds os fl).1
    have e2 := run_len os fl
    rw [hq]
    split
    · exact ⟨by simp only; omega, by simp only; omega⟩
    · exact ⟨by simp, by simp⟩
  have hs2 := hsm ops q2 hq2 (by omega)
  exact {
    fixed := h1 K k1, small := by omega, of_ := hof, small_fl := by omega, chk := h2 K k2, kind := hkd, run1 := hR1, run2 := hR2, smalli := by omega,
    fne := fun hf => by
      rw [hq1, hq2, ops_all]
      rw [hq2] at hf
      by_cases hc : ops.all okK = true
      · rw [hc] at hf; exact absurd rfl hf
      · have hc' : ops.all okK = false := by simpa using hc
        rw [hc']; rfl,
    do16 := hD16, small_nl := by omega, chk16 := h3 K k3, chg := hchg,
    same16 := fun hc => by
      have hn := of_decide_eq_false hc
      have := do_same fl ⟨o0, o1, o2, o3⟩ (by simp only; omega)
      rw [hnl', this]
      exact h4 K k4,
    do19 := hD19, small_pl := by omega, do20 := hD20, do21 := hD21, do22 := hD22, small_gl := by omega, do23 := hD23, sret := h5 K k5, len := by omega,
    do27 := hD27, samew := h4 K k4, do28 := hD28, do29 := hD29, do30 := hD30, do31 := hD31, kkr := hkw, rng36 := fun _ => hD36, rng36' := ha0, rng39 := fun _ => hD39, rng39' := hb0,
    end1 := h6 K k6, end2 := h7 K k7, end3 := h8 K k8, end4 := h9 K k9, small_be := by omega,
    fz := fun hf => by
      by_cases hc : ops.all okK = true
      · rw [hc] at hq2
        rw [ops_all, hc] at hq1
        have e2 : q2 = ((runL fl ops).1, (runL fl ops).2, (0 : Int)) := hq2
        have hfi : Up q2.1 := by rw [e2]; exact run_up ops fl hu hc
        have hR3 := hrun q2.1 more hfi (by omega) (by omega)
        have hl3 := run_len more (runL fl ops).1
        have happ := run_app ops more fl
        by_cases hd : more.all okK = true
        · rw [hd] at hq1 hR3
          have e1 : q1 = ((runL fl (ops ++ more)).1, (runL fl (ops ++ more)).2, (0 : Int)) := hq1
          refine ⟨(runL q2.1 more).1, (runL q2.1 more).2, ?_, ?_, fun _ => ?_⟩
          · rw [e1]; exact hR3
          · rw [e2]; simp only; omega
          · rw [e1, e2]
            have a1 : (runL (runL fl ops).1 more).1 = (runL fl (ops ++ more)).1 := by rw [happ]
            have a2 : (runL fl ops).2 ++ (runL (runL fl ops).1 more).2 = (runL fl (ops ++ more)).2 := by rw [happ]
            simp only [a1, a2]
            exact ⟨h10 K k10, h11 K k11⟩
        · have hd' : more.all okK = false := by simpa using hd
          rw [hd'] at hq1 hR3
          have e1 : q1 = ([], [], (5 : Int)) := hq1
          refine ⟨[], [], ?_, ?_, fun h5 => ?_⟩
          · rw [e1]; exact hR3
          · rw [e2]; simp only [List.length_nil]; omega
          · rw [e1] at h5; exact absurd h5 (by decide)
      · have hc' : ops.all okK = false := by simpa using hc
        rw [hc'] at hq2
        rw [hq2] at hf
        exact absurd hf (by simp) }
theorem modelLaws_holds : Rows.ModelLawsUptoSaid := ModelLaws_of modelLaws_pure
end Go.Proofs.Ytanlnfcjdjamaaa.P
#print axioms Go.Proofs.Ytanlnfcjdjamaaa.P.modelLaws_holds
