/- P.weighMemory_holds, part 21 of 28: the contracts of the Go functions that the law calls, its own walk, and its plain law, for every input that the statement speaks of. -/
import Derived.Test.YtmmjkebboonnkaaMMe9
import Derived.Test.YtmmjkebboonnkaaMMe18
import Derived.Outline
import Derived.Test.YtmmjkebboonnkaaMMe15
import Derived.Test.YtmmjkebboonnkaaMMe13
set_option linter.unusedVariables false
set_option linter.unusedSimpArgs false
/- E7 -/
namespace Go.Proofs.Ytmmjkebboonnkaa.P
open Go.RowKit Go.Proofs.YtmmjkebboonnkaaW.PrintWords Go.Proofs.YtmmjkebboonnkaaW.PrintLast Go.Proofs.YtmmjkebboonnkaaW.PrintMore
def smallAll (l : List Int) : Bool := l.all fun x => decide (0 ≤ x ∧ x ≤ 1000000)
def firstIn (bad : List Int) : List Int → Int
  | [] => -1
  | p :: ps => if p ∈ bad then p else firstIn bad ps
def weigh_First.f (k : Nat) (l0 : List (S49)) (a1 : Int) : Option (Int × Int) :=
  (weigh_Reds.f k l0).bind fun r => if r.2 = 0 then ((weigh_Overs.f k l0).bind fun o =>
    if smallAll (r.1 ++ o.1) = true ∧ r.1.length + o.1.length ≤ 1000000 then ((table_Search.f k l0 a1).bind fun p => if smallAll p.1 = true then some (firstIn (r.1 ++ o.1) p.1, 0) else none) else none)
  else some (0, r.2)
theorem weigh_First.mono : ∀ a0 a1 k, LeO (weigh_First.f k a0 a1) (weigh_First.f (k + 1) a0 a1) := by
  intro a0 a1 k
  unfold weigh_First.f
  refine LeO.bind (weigh_Reds.mono a0 k) (fun _ => ?_)
  refine LeO.ite ?_ (LeO.refl _)
  refine LeO.bind (weigh_Overs.mono a0 k) (fun _ => ?_)
  refine LeO.ite ?_ (LeO.refl _)
  exact LeO.bind (table_Search.mono a0 a1 k) (fun _ => LeO.refl _)
theorem zeroB (w : World) : (zeroValue 4).run Try.prog w = .ok (.bool false) w := by kernel_rfl
theorem small_at {l : List Int} (h : smallAll l = true) (i : Nat) (hi : i < l.length) : 0 ≤ rd l (i : Int) ∧ rd l (i : Int) ≤ 1000000 := by
  unfold smallAll at h
  rw [List.all_eq_true] at h
  have := h _ (List.getElem_mem hi)
  simpa [rd, List.getD_eq_getElem?_getD, List.getElem?_eq_getElem hi] using this
theorem take_succ_rd {l : List Int} (j : Nat) (h : j < l.length) : l.take (j + 1) = l.take j ++ [rd l (j : Int)] := by
  rw [List.take_succ_eq_append_getElem h]
  simp [rd, List.getD_eq_getElem?_getD, List.getElem?_eq_getElem h]
theorem drop_rd {l : List Int} (j : Nat) (h : j < l.length) : l.drop j = rd l (j : Int) :: l.drop (j + 1) := by
  rw [List.drop_eq_getElem_cons h]
  simp [rd, List.getD_eq_getElem?_getD, List.getElem?_eq_getElem h]
set_option maxHeartbeats 8000000 in
set_option maxRecDepth 100000 in
theorem weigh_First.calls (k : Nat) (A0 : Option Addr) (c0 : Nat) (l0 : List (S49)) (a1 : Int) (r1 : Int) (r2 : Int) (w : World) (hr0 : Kd.C k49 w A0 l0.length l0) (hc0 : l0.length ≤ c0) (h : weigh_First.f k l0 a1 = some (r1, r2)) :
    Calls Try.prog 17 #[.slice A0 l0.length c0, .int .i64 a1] w fun e w' => e = .returned (.tuple #[.int .i64 r1, .int .i64 r2]) ∧ Below w.heap.size w w' := by
  unfold weigh_First.f at h
  obtain ⟨⟨reds, e⟩, he, h⟩ := Option.bind_eq_some_iff.mp h
  dsimp only at h
  have HE := Aside0.mk he
  clear he
  by_cases e0 : e = 0
  · rw [if_pos e0] at h
    subst e0
    obtain ⟨⟨overs, e2⟩, he, h⟩ := Option.bind_eq_some_iff.mp h
    dsimp only at h
    have HE2 := Aside0.mk he
    clear he
    split at h
    rotate_left
    · simp at h
    rename_i hsm
    obtain ⟨hsm, hlen⟩ := hsm
    obtain ⟨⟨path, e3⟩, he, h⟩ := Option.bind_eq_some_iff.mp h
    dsimp only at h
    have HE3 := Aside0.mk he
    clear he
    split at h
    rotate_left
    · simp at h
    rename_i hsp
    simp only [Option.some.injEq, Prod.mk.injEq] at h
    obtain ⟨rfl, rfl⟩ := h
    obtain ⟨bad, hbad⟩ : ∃ bad, bad = reds ++ overs := ⟨_, rfl⟩
    have hbl : bad.length ≤ 1000000 := by rw [hbad, List.length_append]; exact hlen
    rw [← hbad] at hsm
    have HS := Aside0.mk hsm
    have HSP := Aside0.mk hsp
    have HBad := Aside0.mk hbad
    have HLen := Aside0.mk hlen
    rw [← hbad]
    clear hsm hsp hbad hlen
    obtain ⟨res, hres⟩ : ∃ res, res = firstIn bad path := ⟨_, rfl⟩
    rw [← hres]
    have HRes := Aside0.mk hres
    clear hres
    have hmm := @run_makeMap Try.prog
    go_enter Try.func17, Try.ntmps17
    go_wp2_with (first
      | (go_at_call 9; (with_reducible refine (weigh_Reds.calls k _ _ l0 reds 0 _ ?s1 ?s2 HE.out).mono ?_); (case s1 => exact hr0); (case s2 => exact hc0); rintro e w1 ⟨v1, rfl, ho1, hb1⟩; obtain ⟨A1, c1, rfl⟩ := Kd.R_slice ho1; have HO1 := Aside0.mk ho1; have HB1 := Aside0.mk hb1; clear ho1 hb1)
      | (go_at_call 13; (with_reducible refine (weigh_Overs.calls k _ _ l0 overs e2 _ ?s1 ?s2 HE2.out).mono ?_); (case s1 => exact Kd.C_below hr0 HB1.out); (case s2 => exact hc0); rintro e w2 ⟨v2, rfl, ho2, hb2⟩; obtain ⟨A2, c2, rfl⟩ := Kd.R_slice ho2; have HO2 := Aside0.mk ho2; have HO1' := Aside0.mk (Kd.R_elder' HO1.out (Kd.R_base ho2) hb2); have HB2 := Aside0.mk (below_step HB1.out hb2); clear ho2 hb2)
      | ((with_reducible refine gate_builtin (b := .append) (xs := #[.tmp 31, .tmp 32]) rfl ?_); at_builtin; refine Kd.R_append_row (h1 := fun _ => rfl) (Value.int .i64) (0 : Int) (w0 := w) w.heap.size rfl (.tmp 31) (.tmp 32) 23 3 (.int .i64 0) 8 rfl Try.underlying23 info3 rfl (by decide) _ reds overs A2 overs.length c2 (fun _ => True) rfl rfl (fun _ _ => trivial) ?aO ?aR ?aB ?aS ?aL ?_; (case aO => exact Kd.R_alloc (Kd.R_mono HO1'.out (fun _ _ => trivial)) _); (case aR => exact Kd.C_alloc (Kd.R_reads' HO2.out).2.2 _); (case aB => exact below_alloc HB2.out _); (case aS => exact (below_alloc HB2.out _).size); (case aL => have := HLen.out; omega); intro v3 w3 ho3 hb3 hg3 hat3; obtain ⟨A3, c3, rfl⟩ := Kd.R_slice ho3; rw [← HBad.out] at ho3 ⊢; have HO3 := Aside0.mk ho3; have HB3 := Aside0.mk hb3; have HM3 := Aside0.mk (MapB.kept (MapB.made (P := Try.prog) (K := 3) (E := 4) w2) hg3 (MapB.ne_row (MapB.made (P := Try.prog) (K := 3) (E := 4) w2) (Kd.R_alloc HO1'.out _))); clear ho3 hb3 hg3 hat3))
    have hb2w : w.heap.size ≤ w2.heap.size := HB2.out.size
    obtain ⟨b, hb⟩ : ∃ b, b = w2.heap.size := ⟨_, rfl⟩
    rw [← hb] at hb2w
    have HM := Aside0.mk (show MapB Try.prog 3 4 w3 b 0 (fun _ => false) by rw [hb]; exact HM3.out)
    rw [← hb]
    clear HM3 hb
    go_loopw [35] (fun v35 W => ∃ (j : Nat) (f : Int → Bool), v35 = .int .i64 (j : Int) ∧ j ≤ bad.length ∧ Aside0 (∀ x, f x = decide (x ∈ bad.take j)) ∧ Aside0 (MapB Try.prog 3 4 W b j f) ∧ Aside0 (Kd.R (Kd.int .i64) 3 W w.heap.size (fun _ => True) (.slice A3 bad.length c3) bad) ∧ Aside0 (Below w.heap.size w W)) (fun v35 _ => bad.length - (intOf v35).toNat)
    case atStart => exact ⟨0, fun _ => false, rfl, Nat.zero_le _, ⟨by simp⟩, HM, HO3, HB3⟩
    case round =>
      obtain ⟨j, f, rfl, hj, HF, HM, HX, HB⟩ := hrel
      by_cases hlt : j < bad.length
      · obtain ⟨ad, ea, x0⟩ := Kd.at_int (Kd.R_reads' HX.out).2.2 (j : Int) (by omega) (by omega)
        cases ea
        simp only [Int.toNat_natCast] at x0
        obtain ⟨s0, s1⟩ := small_at HS.out j hlt
        obtain ⟨w4, hu4, hm4, hg4⟩ := MapB.run_update HM.out (t := 62) Try.underlying3 Try.underlying62 Try.underlying4 (by unfold maxLen; omega) (rd bad (j : Int)) true (wf_i64 (by omega) (by omega))
        have HM4 := Aside0.mk hm4
        have HX4 := Aside0.mk (R_map HX.out (MapB.blk HM.out) hg4)
        have HB4 := Aside0.mk (pw_below_grown HB.out (some b) HB.out.size hg4 (fun k hk => by cases hk; exact hb2w))
        clear hm4 hg4
        go_wp2
        go_roundw
        case rel => exact ⟨j + 1, _, by go_num, by omega, ⟨fun x => by rw [take_succ_rd j hlt, HF.out]; by_cases hx : x = rd bad (j : Int) <;> simp [hx]⟩, HM4, HX4, HB4⟩
        case measure => simp [intOf]; omega
      · have hjb : j = bad.length := by omega
        have HF2 := Aside0.mk (show ∀ x, f x = decide (x ∈ bad) by intro x; rw [HF.out, hjb, List.take_length])
        clear hjb
        go_wp2_with (go_at_call 49; (with_reducible refine (table_Search.calls k _ _ l0 a1 path e3 _ ?s1 ?s2 HE3.out).mono ?_); (case s1 => exact Kd.C_below hr0 HB.out); (case s2 => exact hc0); rintro e w5 ⟨v5, rfl, ho5, hb5⟩; obtain ⟨A5, c5, rfl⟩ := Kd.R_slice ho5; have HO5 := Aside0.mk ho5; have HM5 := Aside0.mk (MapB.below HM.out hb5); have HB5 := Aside0.mk (below_step HB.out hb5); clear ho5 hb5)
        have hpl : path.length ≤ 9223372036854775807 := Kd.C_max (Kd.R_reads' HO5.out).2.2
        go_loop [50] (fun v50 => ∃ i : Nat, v50 = .int .i64 (i : Int) ∧ i ≤ path.length ∧ Aside0 (res = firstIn bad (path.drop i))) (fun v50 => path.length - (intOf v50).toNat)
        case atStart => exact ⟨0, rfl, Nat.zero_le _, ⟨by simpa using HRes.out⟩⟩
        case round =>
          obtain ⟨i, rfl, hi, HI⟩ := hrel
          by_cases hlt2 : i < path.length
          · obtain ⟨ad, ea, y0⟩ := Kd.at_int (Kd.R_reads' HO5.out).2.2 (i : Int) (by omega) (by omega)
            cases ea
            simp only [Int.toNat_natCast] at y0
            obtain ⟨s0, s1⟩ := small_at HSP.out i hlt2
            have hl := MapB.run_lookup HM5.out (t := 62) Try.underlying3 Try.underlying62 Try.underlying4 (zeroB _) (rd path (i : Int)) (wf_i64 (by omega) (by omega))
            by_cases hin : rd path (i : Int) ∈ bad
            · have hft : f (rd path (i : Int)) = true := by rw [HF2.out]; simpa using hin
              rw [hft] at hl
              have hri : res = rd path (i : Int) := by rw [HI.out, drop_rd i hlt2]; simp [firstIn, hin]
              have HRI := Aside0.mk hri
              clear hft hri
              go_wp2
              go_ret2
              exact ⟨by rw [HRI.out]; rfl, HB5.out⟩
            · have hft : f (rd path (i : Int)) = false := by rw [HF2.out]; simpa using hin
              rw [hft] at hl
              have hri : res = firstIn bad (path.drop (i + 1)) := by rw [HI.out, drop_rd i hlt2]; simp [firstIn, hin]
              have HRI := Aside0.mk hri
              clear hft hri
              go_wp2
              go_round
              case rel => exact ⟨i + 1, by go_num, by omega, HRI⟩
              case measure => simp [intOf]; omega
          · have hri : res = -1 := by rw [HI.out, List.drop_eq_nil_of_le (by omega)]; rfl
            have HRI := Aside0.mk hri
            clear hri
            go_wp2
            go_ret2
            exact ⟨by rw [HRI.out]; rfl, HB5.out⟩
  · rw [if_neg e0] at h
    simp only [Option.some.injEq, Prod.mk.injEq] at h
    obtain ⟨rfl, rfl⟩ := h
    have e1 : (e != 0) = true := bne_iff_ne.mpr e0
    go_enter Try.func17, Try.ntmps17
    go_wp2_with (go_at_call 9; (with_reducible refine (weigh_Reds.calls k _ _ l0 reds e _ ?s1 ?s2 HE.out).mono ?_); (case s1 => exact hr0); (case s2 => exact hc0); rintro e w1 ⟨v1, rfl, ho1, hb1⟩)
    go_ret2
    exact ⟨rfl, hb1⟩
end Go.Proofs.Ytmmjkebboonnkaa.P
