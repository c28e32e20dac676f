/- P.weighMemory_holds, part 20 of 28: the contracts of the Go functions that the law calls, its own walk, and its plain law, for every input that the statement speaks of. -/
import Derived.Test.YtmmjkebboonnkaaMMe9
import Derived.RegionTactic
import Derived.ChangeAlike
import Derived.BigRegion
import Derived.Outline
import Derived.Test.YtmmjkebboonnkaaMMe15
set_option linter.unusedVariables false
set_option linter.unusedSimpArgs false
/- E6 -/
namespace Go.Proofs.Ytmmjkebboonnkaa.P
open Go.RowKit Go.Proofs.YtmmjkebboonnkaaW.PrintWords Go.Proofs.YtmmjkebboonnkaaW.PrintLast Go.Proofs.YtmmjkebboonnkaaW.PrintMore
def setAt (f : Int → Int) (a v : Int) : Int → Int := fun k => if k = a then v else f k
def sumsGo (l0 : List S49) (ord par : List Int) : Nat → Nat → (Int → Int) → List Int → Option (List Int)
  | 0, _, _, out => some out
  | d + 1, j, f, out =>
    if (0 ≤ rd ord (j : Int) ∧ rd ord (j : Int) < (l0.length : Int) ∧ rd ord (j : Int) < (par.length : Int) ∧ (0 ≤ (J49 l0 (rd ord (j : Int))).f2 ∧ (J49 l0 (rd ord (j : Int))).f2 ≤ 1000000) ∧ out.length < 17592186044416) ∧ (j = 0 ∨ (-1 ≤ rd par (rd ord (j : Int)) ∧ rd par (rd ord (j : Int)) ≤ 1000000)) then
      let f1 := setAt f (rd ord (j : Int)) (J49 l0 (rd ord (j : Int))).f2
      let f2 := if j = 0 then f1 else setAt f1 (rd ord (j : Int)) (wrap64 (f1 (rd ord (j : Int)) + f1 (rd par (rd ord (j : Int)))))
      sumsGo l0 ord par d (j + 1) f2 (if (J49 l0 (rd ord (j : Int))).f4 < 0 then out ++ [f2 (rd ord (j : Int))] else out)
    else none
def weigh_Sums.f (k : Nat) (l0 : List (S49)) : Option (List Int × Int) :=
  (weigh_keys.f k l0).bind fun r => if r.2.2 = 0 then (if r.1.length ≤ 1000000 then ((sumsGo l0 r.1 r.2.1 r.1.length 0 (fun _ => 0) []).map fun o => (o, 0)) else none) else some ([], r.2.2)
theorem weigh_Sums.mono : ∀ a0 k, LeO (weigh_Sums.f k a0) (weigh_Sums.f (k + 1) a0) := by
  intro a0 k
  unfold weigh_Sums.f
  exact LeO.bind (weigh_keys.mono a0 k) (fun _ => LeO.refl _)
theorem zeroI (w : World) : (zeroValue 3).run Try.prog w = .ok (.int .i64 0) w := by kernel_rfl
set_option maxHeartbeats 8000000 in
set_option maxRecDepth 100000 in
theorem weigh_Sums.calls (k : Nat) (A0 : Option Addr) (c0 : Nat) (l0 : List (S49)) (r1 : List Int) (r2 : Int) (w : World) (hr0 : Kd.C k49 w A0 l0.length l0) (hc0 : l0.length ≤ c0) (h : weigh_Sums.f k l0 = some (r1, r2)) :
    Calls Try.prog 25 #[.slice A0 l0.length c0] w fun e w' => ∃ v0_ : Value, e = .returned (.tuple #[v0_, .int .i64 r2]) ∧ Kd.R (Kd.int .i64) 3 w' w.heap.size (fun _ => True) v0_ r1 ∧ Below w.heap.size w w' := by
  have hu49 := Try.underlying49
  have hmx0 : l0.length ≤ 9223372036854775807 := Kd.C_max hr0
  unfold weigh_Sums.f at h
  obtain ⟨⟨ord, par, e⟩, he, h⟩ := Option.bind_eq_some_iff.mp h
  dsimp only at h
  have HE := Aside0.mk he
  clear he
  by_cases e0 : e = 0
  · rw [if_pos e0] at h
    subst e0
    split at h
    rotate_left
    · simp at h
    rename_i hol
    obtain ⟨o, ho, h⟩ := Option.map_eq_some_iff.mp h
    simp only [Prod.mk.injEq] at h
    obtain ⟨rfl, rfl⟩ := h
    have H := Aside0.mk ho
    clear ho
    have hmm := @run_makeMap Try.prog
    go_enter Try.func25, Try.ntmps25
    go_wp2_with (go_at_call 51; (with_reducible refine (weigh_keys.calls k _ _ l0 ord par 0 _ ?s1 ?s2 HE.out).mono ?_); (case s1 => exact hr0); (case s2 => exact hc0); rintro e w1 ⟨v1, v2, rfl, ho1, ho2, hb1⟩; obtain ⟨A1, c1, rfl⟩ := Kd.R_slice ho1; obtain ⟨A2, c2, rfl⟩ := Kd.R_slice ho2; have HO1 := Aside0.mk ho1; have HO2 := Aside0.mk ho2; have HB1 := Aside0.mk hb1; clear ho1 ho2 hb1)
    obtain ⟨b, hb⟩ : ∃ b, b = w1.heap.size := ⟨_, rfl⟩
    have HMb : MapI Try.prog 3 3 (w1.alloc (.map #[] 0)) b 0 (fun _ => 0) := by rw [hb]; exact MapI.made w1
    have hbw : w.heap.size ≤ b := by rw [hb]; exact HB1.out.size
    rw [← hb]
    have HM := Aside0.mk HMb
    clear HMb hb
    go_loopw [8, 23] (fun v8 v23 W => ∃ (j n : Nat) (f : Int → Int) (xs : List Int), v23 = .int .i64 (j : Int) ∧ j ≤ ord.length ∧ Aside0 (n ≤ 2 * j) ∧ Aside0 (sumsGo l0 ord par (ord.length - j) j f xs = some o) ∧ Aside0 (MapI Try.prog 3 3 W b n f) ∧ Aside0 (Kd.R (Kd.int .i64) 3 W w.heap.size (fun k_ => some k_ ≠ v8.ownBlock) (.slice A1 ord.length c1) ord) ∧ Aside0 (Kd.R (Kd.int .i64) 3 W w.heap.size (fun k_ => some k_ ≠ v8.ownBlock) (.slice A2 par.length c2) par) ∧ Aside0 (Kd.R (Kd.int .i64) 3 W w.heap.size (fun k_ => some k_ ≠ (Value.slice A1 ord.length c1).ownBlock ∧ some k_ ≠ (Value.slice A2 par.length c2).ownBlock) v8 xs) ∧ Aside0 (Below w.heap.size w W)) (fun _ v23 _ => ord.length - (intOf v23).toNat)
    case atStart => exact ⟨0, 0, fun _ => 0, [], rfl, Nat.zero_le _, ⟨by omega⟩, H, HM, ⟨Kd.R_alloc (Kd.R_mono HO1.out (fun _ _ => by simp [Value.ownBlock])) _⟩, ⟨Kd.R_alloc (Kd.R_mono HO2.out (fun _ _ => by simp [Value.ownBlock])) _⟩, ⟨Kd.R_nil _ _ _ _ _⟩, ⟨below_alloc HB1.out _⟩⟩
    case round =>
      obtain ⟨j, n, f, xs, rfl, hj, HN, HG, HM, HR1, HR2, HX, HB⟩ := hrel
      by_cases hlt : j < ord.length
      · have hg := HG.out
        rw [show ord.length - j = (ord.length - (j + 1)) + 1 by omega] at hg
        simp only [sumsGo] at hg
        split at hg
        · rename_i hcn
          obtain ⟨⟨a0, a1, a2, ⟨a3, a4⟩, a5⟩, a6⟩ := hcn
          obtain ⟨at_, hat_⟩ : ∃ at_, at_ = rd ord (j : Int) := ⟨_, rfl⟩
          obtain ⟨wt, hwt⟩ : ∃ wt, wt = (J49 l0 at_).f2 := ⟨_, rfl⟩
          obtain ⟨pa, hpa⟩ : ∃ pa, pa = rd par at_ := ⟨_, rfl⟩
          rw [← hat_] at a0 a1 a2 a3 a4 a6 hg
          rw [← hwt] at a3 a4 hg
          rw [← hpa] at a6 hg
          obtain ⟨f1, hf1⟩ : ∃ f1, f1 = setAt f at_ wt := ⟨_, rfl⟩
          rw [← hf1] at hg
          obtain ⟨f2, hf2⟩ : ∃ f2, f2 = (if j = 0 then f1 else setAt f1 at_ (wrap64 (f1 at_ + f1 pa))) := ⟨_, rfl⟩
          rw [← hf2] at hg
          have HG2 := Aside0.mk hg
          have HL := Aside0.mk a5
          clear hg HG a5
          obtain ⟨ad, ea, x0⟩ := Kd.at_int (Kd.R_reads' HR1.out).2.2 (j : Int) (by omega) (by omega)
          cases ea
          simp only [Int.toNat_natCast] at x0
          rw [← hat_] at x0
          obtain ⟨w1u, hu1, hm1, hg1⟩ := MapI.run_update HM.out (t := 67) Try.underlying3 Try.underlying67 Try.underlying3 (by have := HN.out; unfold maxLen; omega) at_ wt (wf_i64 (by omega) (by omega)) (wf_i64 (by omega) (by omega))
          have hmf : MapI Try.prog 3 3 w1u b (n + 1) f1 := by rw [hf1]; exact hm1
          have HM1 := Aside0.mk hmf
          have HR1a := Aside0.mk (R_map HR1.out (MapI.blk HM.out) hg1)
          have HR2a := Aside0.mk (R_map HR2.out (MapI.blk HM.out) hg1)
          have HXa := Aside0.mk (R_map HX.out (MapI.blk HM.out) hg1)
          have HBa := Aside0.mk (pw_below_grown HB.out (some b) HB.out.size hg1 (fun k hk => by cases hk; exact hbw))
          clear hm1 hmf hg1
          obtain ⟨ad2, ea, y0⟩ := Kd.at_int (Kd.R_reads' HR2a.out).2.2 _ a0 a2
          cases ea
          rw [← hpa] at y0
          obtain ⟨ad3, ea, z0, z1, z2, z3, z4, z5⟩ := at_T49 (Kd.C_below hr0 HB.out) at_ a0 a1
          cases ea
          rw [← hwt] at z2
          obtain ⟨ad4, ea, u0, u1, u2, u3, u4, u5⟩ := at_T49 (Kd.C_below hr0 HBa.out) at_ a0 a1
          cases ea
          have HAt := Aside0.mk hat_
          have HWt := Aside0.mk hwt
          have HPa := Aside0.mk hpa
          have HF1 := Aside0.mk hf1
          clear hat_ hwt hpa hf1
          by_cases hj0 : j = 0
          · have hj1 : decide ((0 : Int) < (j : Int)) = false := by simpa using hj0
            have hj2 : decide (0 < j) = false := by simpa using hj0
            rw [if_pos hj0] at hf2
            subst hf2
            clear hj0
            have hl3 := MapI.run_lookup HM1.out (t := 67) Try.underlying3 Try.underlying67 Try.underlying3 (zeroI _) at_ (wf_i64 (by omega) (by omega))
            have HMn := HM1
            have HR1n := HR1a
            have HR2n := HR2a
            have HXn := HXa
            have HBn := HBa
            by_cases hlf : (J49 l0 at_).f4 < 0
            · skip
              go_wp2_with ((with_reducible refine gate_builtin (b := .append) (xs := #[.tmp 53, .tmp 57]) rfl ?_); at_builtin; refine Kd.R_append (Kd.int .i64) (w0 := w) w.heap.size rfl (.tmp 53) (.tmp 57) 23 3 (.int .i64 0) 8 rfl Try.underlying23 info3 rfl (by decide) (by omega) _ xs (f2 at_) [.int .i64 (f2 at_)] (fun k_ => some k_ ≠ (Value.slice (some ad) ord.length c1).ownBlock ∧ some k_ ≠ (Value.slice (some ad2) par.length c2).ownBlock) (fun _ => False) rfl rfl ?aP (fun _ hk => hk.elim) ?aF ?aO ?aB ?aS ?aL ?_; (case aP => exact rfl); (case aB => exact HBn.out); (case aF => exact fun k_ hk => ⟨Kd.fresh' (Kd.R_lt HR1n.out) k_ hk, Kd.fresh' (Kd.R_lt HR2n.out) k_ hk⟩); (case aO => exact HXn.out); (case aS => exact below_size HBn.out); (case aL => have := HL.out; omega); intro v5 w5 ho5 hb5 hg5 hat5; have HR1' := Aside0.mk (Kd.R_after (ok := fun _ => True) (Kd.R_mono HR1n.out (fun _ hk => ⟨trivial, hk⟩)) hg5 hat5); have HR2' := Aside0.mk (Kd.R_after (ok := fun _ => True) (Kd.R_mono HR2n.out (fun _ hk => ⟨trivial, hk⟩)) hg5 hat5); have HX' := Aside0.mk ho5; have HB' := Aside0.mk hb5; have HM' := Aside0.mk (MapI.kept HMn.out hg5 (MapI.ne_row HMn.out HXn.out)); clear ho5 hb5 hg5 hat5)
              go_roundw
              case rel => exact ⟨j + 1, n + 1, f2, _, by go_num, by omega, ⟨by have := HN.out; omega⟩, ⟨by have h3 := HG2.out; rw [if_pos hlf] at h3; exact h3⟩, HM', ⟨Kd.R_mono HR1'.out (fun _ hk => hk.2)⟩, ⟨Kd.R_mono HR2'.out (fun _ hk => hk.2)⟩, HX', HB'⟩
              case measure => simp [intOf]; omega
            · skip
              go_wp2
              go_roundw
              case rel => exact ⟨j + 1, n + 1, f2, xs, by go_num, by omega, ⟨by have := HN.out; omega⟩, ⟨by have h3 := HG2.out; rw [if_neg (by omega)] at h3; exact h3⟩, HMn, HR1n, HR2n, HXn, HBn⟩
              case measure => simp [intOf]; omega
          · have hj1 : decide ((0 : Int) < (j : Int)) = true := by simp; omega
            have hj2 : decide (0 < j) = true := by simp; omega
            rw [if_neg hj0] at hf2
            obtain ⟨p0, p1⟩ := a6.resolve_left hj0
            clear hj0 a6
            have HM1d := Aside0.mk (MapI.drew HM1.out)
            have hl1 := MapI.run_lookup HM1d.out (t := 67) Try.underlying3 Try.underlying67 Try.underlying3 (zeroI _) at_ (wf_i64 (by omega) (by omega))
            have hl2 := MapI.run_lookup HM1d.out (t := 67) Try.underlying3 Try.underlying67 Try.underlying3 (zeroI _) pa (wf_i64 (by omega) (by omega))
            obtain ⟨w2u, hu2, hm2, hg2⟩ := MapI.run_update HM1d.out (t := 67) Try.underlying3 Try.underlying67 Try.underlying3 (by have := HN.out; unfold maxLen; omega) at_ (wrap64 (f1 at_ + f1 pa)) (wf_i64 (by omega) (by omega)) (wrap64_wf _)
            have hmf : MapI Try.prog 3 3 w2u b (n + 1 + 1) f2 := by rw [hf2]; exact hm2
            have HMn := Aside0.mk hmf
            have HR1n := Aside0.mk (R_map (Kd.R_drew HR1a.out) (MapI.blk HM1d.out) hg2)
            have HR2n := Aside0.mk (R_map (Kd.R_drew HR2a.out) (MapI.blk HM1d.out) hg2)
            have HXn := Aside0.mk (R_map (Kd.R_drew HXa.out) (MapI.blk HM1d.out) hg2)
            have HBn := Aside0.mk (pw_below_grown (below_drew HBa.out) (some b) (below_drew HBa.out).size hg2 (fun k hk => by cases hk; exact hbw))
            have hl3 := MapI.run_lookup HMn.out (t := 67) Try.underlying3 Try.underlying67 Try.underlying3 (zeroI _) at_ (wf_i64 (by omega) (by omega))
            have HF2 := Aside0.mk hf2
            clear hm2 hmf hg2 hf2
            obtain ⟨ad5, ea, q0, q1, q2, q3, q4, q5⟩ := at_T49 (Kd.C_below hr0 HBn.out) at_ a0 a1
            cases ea
            by_cases hlf : (J49 l0 at_).f4 < 0
            · go_wp2
              go_region
              go_wp2_with ((with_reducible refine gate_builtin (b := .append) (xs := #[.tmp 53, .tmp 57]) rfl ?_); at_builtin; refine Kd.R_append (Kd.int .i64) (w0 := w) w.heap.size rfl (.tmp 53) (.tmp 57) 23 3 (.int .i64 0) 8 rfl Try.underlying23 info3 rfl (by decide) (by omega) _ xs (f2 at_) [.int .i64 (f2 at_)] (fun k_ => some k_ ≠ (Value.slice (some ad) ord.length c1).ownBlock ∧ some k_ ≠ (Value.slice (some ad2) par.length c2).ownBlock) (fun _ => False) rfl rfl ?aP (fun _ hk => hk.elim) ?aF ?aO ?aB ?aS ?aL ?_; (case aP => exact rfl); (case aB => exact HBn.out); (case aF => exact fun k_ hk => ⟨Kd.fresh' (Kd.R_lt HR1n.out) k_ hk, Kd.fresh' (Kd.R_lt HR2n.out) k_ hk⟩); (case aO => exact HXn.out); (case aS => exact below_size HBn.out); (case aL => have := HL.out; omega); intro v5 w5 ho5 hb5 hg5 hat5; have HR1' := Aside0.mk (Kd.R_after (ok := fun _ => True) (Kd.R_mono HR1n.out (fun _ hk => ⟨trivial, hk⟩)) hg5 hat5); have HR2' := Aside0.mk (Kd.R_after (ok := fun _ => True) (Kd.R_mono HR2n.out (fun _ hk => ⟨trivial, hk⟩)) hg5 hat5); have HX' := Aside0.mk ho5; have HB' := Aside0.mk hb5; have HM' := Aside0.mk (MapI.kept HMn.out hg5 (MapI.ne_row HMn.out HXn.out)); clear ho5 hb5 hg5 hat5)
              go_roundw
              case rel => exact ⟨j + 1, n + 1 + 1, f2, _, by go_num, by omega, ⟨by have := HN.out; omega⟩, ⟨by have h3 := HG2.out; rw [if_pos hlf] at h3; exact h3⟩, HM', ⟨Kd.R_mono HR1'.out (fun _ hk => hk.2)⟩, ⟨Kd.R_mono HR2'.out (fun _ hk => hk.2)⟩, HX', HB'⟩
              case measure => simp [intOf]; omega
            · go_wp2
              go_region
              go_wp2
              go_roundw
              case rel => exact ⟨j + 1, n + 1 + 1, f2, xs, by go_num, by omega, ⟨by have := HN.out; omega⟩, ⟨by have h3 := HG2.out; rw [if_neg (by omega)] at h3; exact h3⟩, HMn, HR1n, HR2n, HXn, HBn⟩
              case measure => simp [intOf]; omega
        · simp at hg
      · go_wp2
        go_ret2
        have hg := HG.out
        rw [show ord.length - j = 0 by omega] at hg
        simp only [sumsGo, Option.some.injEq] at hg
        subst hg
        exact ⟨_, rfl, Kd.R_mono HX.out (fun _ _ => trivial), HB.out⟩
  · rw [if_neg e0] at h
    simp only [Option.some.injEq, Prod.mk.injEq] at h
    obtain ⟨rfl, rfl⟩ := h
    have e1 : (e != 0) = true := bne_iff_ne.mpr e0
    go_enter Try.func25, Try.ntmps25
    go_wp2_with (go_at_call 51; (with_reducible refine (weigh_keys.calls k _ _ l0 ord par e _ ?s1 ?s2 HE.out).mono ?_); (case s1 => exact hr0); (case s2 => exact hc0); rintro e w1 ⟨v1, v2, rfl, ho1, ho2, hb1⟩)
    go_ret2
    exact ⟨_, rfl, Kd.R_nil _ _ _ _ _, hb1⟩
end Go.Proofs.Ytmmjkebboonnkaa.P
