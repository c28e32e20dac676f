/- P.weighMemory_holds, part 15 of 28: the contracts of the Go functions that the law calls, its own walk, and its plain law, for every input that the statement speaks of. -/
import Derived.Test.YtmmjkebboonnkaaMMe5
import Derived.Test.YtmmjkebboonnkaaMMe13
import Derived.RegionTactic
import Derived.ChangeAlike
import Derived.BigRegion
set_option linter.unusedVariables false
set_option linter.unusedSimpArgs false
/- E2 -/
namespace Go.Proofs.Ytmmjkebboonnkaa.P
open Go.RowKit Go.Proofs.YtmmjkebboonnkaaW.PrintWords Go.Proofs.YtmmjkebboonnkaaW.PrintLast Go.Proofs.YtmmjkebboonnkaaW.PrintMore
def parentsGo (l0 : List S49) : Nat → Nat → List Int → Option (List Int)
  | 0, _, out => some out
  | d + 1, j, out =>
    let n := J49 l0 (j : Int)
    if n.f4 = -1 ∧ n.f5 = -1 then parentsGo l0 d (j + 1) out
    else if (0 ≤ n.f4 ∧ n.f4 < (out.length : Int)) ∧ (0 ≤ n.f5 ∧ n.f5 < (out.length : Int)) then parentsGo l0 d (j + 1) ((out.set n.f4.toNat j).set n.f5.toNat j)
    else none
def table_Parents.f (k : Nat) (l0 : List (S49)) : Option (List Int × Int) :=
  (table_Check.f k l0).bind fun e => if e = 0 then (if 0 < l0.length ∧ l0.length ≤ 35184372088832 then ((parentsGo l0 l0.length 0 ((List.replicate l0.length 0).set 0 (-1))).map fun o => (o, 0)) else none) else some ([], e)
set_option maxHeartbeats 8000000 in
set_option maxRecDepth 100000 in
theorem table_Parents.calls (k : Nat) (A0 : Option Addr) (c0 : Nat) (l0 : List (S49)) (r1 : List Int) (r2 : Int) (w : World) (hr0 : Kd.C k49 w A0 l0.length l0) (hc0 : l0.length ≤ c0) (h : table_Parents.f k l0 = some (r1, r2)) :
    Calls Try.prog 63 #[.slice A0 l0.length c0] w fun e w' => ∃ v0_ : Value, e = .returned (.tuple #[v0_, .int .i64 r2]) ∧ Kd.R (Kd.int .i64) 3 w' w.heap.size (fun _ => True) v0_ r1 ∧ Below w.heap.size w w' := by
  have hu49 := Try.underlying49
  have hmx : l0.length ≤ 9223372036854775807 := Kd.C_max hr0
  unfold table_Parents.f at h
  obtain ⟨e, he, h⟩ := Option.bind_eq_some_iff.mp h
  have HE := Aside0.mk he
  clear he
  by_cases e0 : e = 0
  · rw [if_pos e0] at h
    subst e0
    obtain ⟨hn, h⟩ : (0 < l0.length ∧ l0.length ≤ 35184372088832) ∧ ((parentsGo l0 l0.length 0 ((List.replicate l0.length 0).set 0 (-1))).map fun o => (o, (0 : Int))) = some (r1, r2) := by
      split at h
      · exact ⟨‹_›, h⟩
      · simp at h
    obtain ⟨o, ho, h⟩ := Option.map_eq_some_iff.mp h
    simp only [Prod.mk.injEq] at h
    obtain ⟨rfl, rfl⟩ := h
    have H := Aside0.mk ho
    clear ho
    obtain ⟨hn, hn2⟩ := hn
    have HN2 := Aside0.mk hn2
    clear hn2
    obtain ⟨ys, hys⟩ : ∃ ys : List Int, ys = List.replicate (l0.length : Int).toNat 0 := ⟨_, rfl⟩
    have hyl : ys.length = l0.length := by rw [hys]; simp
    have Nys := Aside0.mk hys
    have Hyl := Aside0.mk hyl
    have hp0 : 0 < ys.length := by rw [hyl]; exact hn
    have hp1 : (0 : Int) < (ys.length : Int) := by omega
    clear hys hyl
    go_enter Try.func63, Try.ntmps63
    go_wp2_with (first | (go_at_call 60; (with_reducible refine (table_Check.calls k _ _ l0 0 _ ?s1 ?s2 HE.out).mono ?_); (case s1 => exact hr0); (case s2 => exact hc0); rintro e w1 ⟨rfl, hb1⟩) | ((with_reducible refine gate_dst (N := 15) rfl ?_); refine Kd.R_make (Kd.int .i64) _ 3 rfl (N := 15) rfl 23 _ _ rfl (l0.length : Int) rfl rfl Try.underlying23 (.int .i64 0) 8 info3 rfl (by decide) (by omega) 0 (ok := fun _ => True) (okp := fun _ => True) rfl (fun _ hk => hk) trivial (by omega) (by have := HN2.out; omega) (Below.refl _ _) (Nat.le_refl _) ?_; intro v705 w2 ho1 hb2 hg_ hnew_; clear hg_ hnew_; rw [← Nys.out] at ho1; obtain ⟨g, cp, rfl, hgw, hgl, -⟩ := Kd.R_form ho1 hp0; obtain ⟨hc00, hf00⟩ := Kd.R_celln (0 : Int) ho1 0 (by omega) (by omega); replace hc00 : w2.cell? ⟨g, 0, none⟩ = _ := hc00; replace hf00 : w2.frozen? ⟨g, 0, none⟩ = _ := hf00))
    have ho2 : Kd.R (Kd.int .i64) 3 (w2.setCell ⟨g, 0, none⟩ (.int .i64 (-1))) _ _ _ _ := Kd.R_putn ho1 0 (-1)
    have hb3 := hb2.setCell (p := ⟨g, 0, none⟩) hgw (.int .i64 (-1))
    go_loopw [20] (fun v20 W => ∃ (j : Nat) (xs : List Int), v20 = .int .i64 (j : Int) ∧ j ≤ l0.length ∧ Aside0 (xs.length = ys.length) ∧ Aside0 (parentsGo l0 (l0.length - j) j xs = some o) ∧ Aside0 (Kd.R (Kd.int .i64) 3 W w.heap.size (fun _ => True) (.slice (some ⟨g, 0, none⟩) ys.length cp) xs) ∧ Aside0 (Below w.heap.size w W)) (fun v20 _ => l0.length - (intOf v20).toNat)
    case atStart => exact ⟨0, ys.set 0 (-1), rfl, Nat.zero_le _, ⟨by simp⟩, ⟨by rw [Nys.out]; exact H.out⟩, ⟨Kd.R_lower ho2 hb1.size⟩, ⟨below_step hb1 hb3⟩⟩
    case round =>
      obtain ⟨j, xs, rfl, hj, HX, HG, HO, HB⟩ := hrel
      by_cases hlt : j < l0.length
      · obtain ⟨ad, ea, x0, x1, x2, x3, x4, x5⟩ := at_T49 (Kd.C_below hr0 HB.out) (j : Int) (by omega) (by omega)
        cases ea
        simp only [Int.toNat_natCast] at x0 x1 x2 x3 x4 x5
        by_cases hleaf : (J49 l0 (j : Int)).f4 = -1 ∧ (J49 l0 (j : Int)).f5 = -1
        · have hl := decide_eq_true hleaf
          have hg := HG.out
          rw [show l0.length - j = (l0.length - (j + 1)) + 1 by omega] at hg
          simp only [parentsGo] at hg
          rw [if_pos hleaf] at hg
          have HG2 := Aside0.mk hg
          clear hg hleaf HG
          go_wp2_with (go_at_call 66; refine (isLeaf_calls _ _ _ _ _ _ _).mono ?_; rintro e w' ⟨rfl, rfl⟩)
          go_roundw
          case rel => exact ⟨j + 1, xs, by go_num, by omega, HX, ⟨by rw [show l0.length - (j + 1) = l0.length - (j + 1) from rfl]; exact HG2.out⟩, ⟨Kd.R_alloc (Kd.R_alloc HO.out _) _⟩, ⟨below_alloc (below_alloc HB.out _) _⟩⟩
          case measure => simp [intOf]; omega
        · have hl := decide_eq_false hleaf
          have hg := HG.out
          rw [show l0.length - j = (l0.length - (j + 1)) + 1 by omega] at hg
          simp only [parentsGo] at hg
          rw [if_neg hleaf] at hg
          split at hg
          · rename_i hc
            obtain ⟨⟨a0, a1⟩, b0, b1⟩ := hc
            rw [HX.out] at a1 b1
            have HG2 := Aside0.mk hg
            clear hg hleaf HG
            obtain ⟨ca, fa⟩ := Kd.R_celln (0 : Int) HO.out _ a0 a1
            have HO3 := Aside0.mk (Kd.R_putn HO.out (J49 l0 (j : Int)).f4 (j : Int))
            obtain ⟨cb, fb⟩ := Kd.R_celln (0 : Int) HO3.out _ b0 b1
            have HO4 := Aside0.mk (Kd.R_putn HO3.out (J49 l0 (j : Int)).f5 (j : Int))
            have HB4 := Aside0.mk (below_set (j := (J49 l0 (j : Int)).f5.toNat) (v := .int .i64 (j : Int)) (below_set (j := (J49 l0 (j : Int)).f4.toNat) (v := .int .i64 (j : Int)) HB.out (Kd.R_base HO.out g rfl)) (Kd.R_base HO.out g rfl))
            have hgw := Kd.R_lt HO.out g rfl
            go_wp2_with (go_at_call 66; refine (isLeaf_calls _ _ _ _ _ _ _).mono ?_; rintro e w' ⟨rfl, rfl⟩)
            go_region
            go_wp2
            go_roundw
            case rel => exact ⟨j + 1, _, by go_num, by omega, ⟨by simpa using HX.out⟩, ⟨HG2.out⟩, ⟨Kd.R_drew (Kd.R_alloc (Kd.R_alloc HO4.out _) _)⟩, ⟨below_drew (below_alloc (below_alloc HB4.out _) _)⟩⟩
            case measure => simp [intOf]; omega
          · simp at hg
      · go_wp2
        go_ret2
        have hg := HG.out
        rw [show l0.length - j = 0 by omega] at hg
        simp only [parentsGo, Option.some.injEq] at hg
        subst hg
        exact ⟨_, rfl, HO.out, HB.out⟩
  · rw [if_neg e0] at h
    simp only [Option.some.injEq, Prod.mk.injEq] at h
    obtain ⟨rfl, rfl⟩ := h
    have e1 : (e != 0) = true := bne_iff_ne.mpr e0
    go_enter Try.func63, Try.ntmps63
    go_wp2_with (go_at_call 60; (with_reducible refine (table_Check.calls k _ _ l0 e _ ?s1 ?s2 HE.out).mono ?_); (case s1 => exact hr0); (case s2 => exact hc0); rintro e w1 ⟨rfl, hb1⟩)
    go_ret2
    exact ⟨_, rfl, Kd.R_nil _ _ _ _ _, hb1⟩
theorem table_Parents.mono : ∀ a0 k, LeO (table_Parents.f k a0) (table_Parents.f (k + 1) a0) := by
  intro a0 k
  unfold table_Parents.f
  exact LeO.bind (table_Check.mono a0 k) (fun _ => LeO.refl _)
end Go.Proofs.Ytmmjkebboonnkaa.P
