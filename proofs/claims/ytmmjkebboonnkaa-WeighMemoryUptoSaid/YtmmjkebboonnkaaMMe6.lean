/- P.weighMemory_holds, part 7 of 28: the contracts of the Go functions that the law calls, its own walk, and its plain law, for every input that the statement speaks of. -/
import Derived.Test.YtmmjkebboonnkaaMMe5
import Derived.RegionTactic
import Derived.ChangeAlike
import Derived.Outline
import Derived.Test.YtmmjkebboonnkaaMMe2
set_option linter.unusedVariables false
set_option linter.unusedSimpArgs false
/- E8 -/
namespace Go.Proofs.Ytmmjkebboonnkaa.P
open Go.RowKit Go.Proofs.YtmmjkebboonnkaaW.PrintWords Go.Proofs.YtmmjkebboonnkaaW.PrintLast Go.Proofs.YtmmjkebboonnkaaW.PrintMore
theorem refLeaf_calls (a b c d l r : Int) (w : World) : Calls Try.prog 53 #[.agg #[.int .i64 a, .int .i64 b, .int .i64 c, .int .i64 d, .int .i64 l, .int .i64 r]] w fun e w' => e = .returned (.bool (decide (l = -1 ∧ r = -1))) ∧ w.alloc (.cells #[.int .i64 a, .int .i64 b, .int .i64 c, .int .i64 d, .int .i64 l, .int .i64 r] 49) = w' := by
  go_enter Try.func53, Try.ntmps53
  go_wp2
  all_goals
    go_ret
    exact ⟨by simp [*]; try rfl, by simp [*]⟩
def numGo (l : List Int) : Nat → Nat → List Int → Option (List Int)
  | 0, _, num => some num
  | d + 1, i, num => if 0 ≤ rd l (i : Int) ∧ rd l (i : Int) < (num.length : Int) then numGo l d (i + 1) (num.set (rd l (i : Int)).toNat i) else none
def renum (num : List Int) (n : S49) : S49 := if n.f4 = -1 ∧ n.f5 = -1 then n else ⟨n.f0, n.f1, n.f2, n.f3, rd num n.f4, rd num n.f5⟩
def outGo (l0 : List S49) (l num : List Int) : Nat → Nat → List S49 → Option (List S49)
  | 0, _, out => some out
  | d + 1, i, out =>
    if (0 ≤ rd l (i : Int) ∧ rd l (i : Int) < (l0.length : Int) ∧ out.length < 1000000) ∧
       ((J49 l0 (rd l (i : Int))).f4 = -1 ∧ (J49 l0 (rd l (i : Int))).f5 = -1 ∨
        (0 ≤ (J49 l0 (rd l (i : Int))).f4 ∧ (J49 l0 (rd l (i : Int))).f4 < (num.length : Int)) ∧ 0 ≤ (J49 l0 (rd l (i : Int))).f5 ∧ (J49 l0 (rd l (i : Int))).f5 < (num.length : Int)) then
      outGo l0 l num d (i + 1) (out ++ [renum num (J49 l0 (rd l (i : Int)))])
    else none
def subOf (l0 : List S49) (l : List Int) : Option (List S49) :=
  if l0.length ≤ 1000000 ∧ l.length ≤ 1000000 then (numGo l l.length 0 (List.replicate l0.length 0)).bind fun num => outGo l0 l num l.length 0 [] else none
def larchref17_Sub.f (k : Nat) (l0 : List (S49)) (a1 : Int) : Option ((List (S49))) := (larchref17_Order.f k l0 a1).bind (subOf l0)
set_option maxHeartbeats 8000000 in
set_option maxRecDepth 100000 in
theorem larchref17_Sub.calls (k : Nat) (A0 : Option Addr) (c0 : Nat) (l0 : List (S49)) (a1 : Int) (r : List (S49)) (w : World) (hr0 : Kd.C k49 w A0 l0.length l0) (hc0 : l0.length ≤ c0) (h : larchref17_Sub.f k l0 a1 = some r) :
    Calls Try.prog 55 #[.slice A0 l0.length c0, .int .i64 a1] w fun e w' => ∃ v0_ : Value, e = .returned (v0_) ∧ Kd.R k49 49 w' w.heap.size (fun _ => True) v0_ r ∧ Below w.heap.size w w' := by
  have hu49 := Try.underlying49
  unfold larchref17_Sub.f at h
  obtain ⟨l, he, h⟩ := Option.bind_eq_some_iff.mp h
  unfold subOf at h
  split at h
  rotate_left
  · simp at h
  rename_i hls
  obtain ⟨hl0, hll⟩ := hls
  obtain ⟨nm, hnm, h⟩ := Option.bind_eq_some_iff.mp h
  have HE := Aside0.mk he
  have HN := Aside0.mk hnm
  have HOut := Aside0.mk h
  clear he hnm h
  obtain ⟨ys, hys⟩ : ∃ ys : List Int, ys = List.replicate (l0.length : Int).toNat 0 := ⟨_, rfl⟩
  have hyl : ys.length = l0.length := by rw [hys]; simp
  have Nys := Aside0.mk hys
  have Hyl := Aside0.mk hyl
  clear hys hyl
  go_enter Try.func55, Try.ntmps55
  go_wp2_with (first
    | (go_at_call 27; (with_reducible refine (larchref17_Order.calls k _ _ l0 a1 l _ ?s1 ?s2 HE.out).mono ?_); (case s1 => exact hr0); (case s2 => exact hc0); rintro e w1 ⟨v1, rfl, ho1, hb1⟩; obtain ⟨A1, c1, rfl⟩ := Kd.R_slice ho1; have HO1 := Aside0.mk ho1; have HB1 := Aside0.mk hb1; clear ho1 hb1)
    | ((with_reducible refine gate_dst (N := 16) rfl ?_); refine Kd.R_make (Kd.int .i64) _ 3 rfl (N := 16) rfl 23 _ _ rfl (l0.length : Int) rfl rfl Try.underlying23 (.int .i64 0) 8 info3 rfl (by decide) (by omega) 0 (ok := fun _ => True) (okp := fun _ => True) rfl (fun _ hk => hk) trivial (by omega) (by omega) (Below.refl _ _) (Nat.le_refl _) ?_; intro v705 w2 ho2 hb2 hg_ hnew_; clear hg_ hnew_; rw [← Nys.out] at ho2; obtain ⟨A2, c2, rfl⟩ := Kd.R_slice ho2; have HO1' := Aside0.mk (Kd.R_elder' HO1.out (Kd.R_base ho2) hb2); have HO2 := Aside0.mk (Kd.R_new' ho2 (Kd.R_lt HO1.out)); have HO2' := Aside0.mk (Kd.R_lower HO2.out HB1.out.size); have HB2 := Aside0.mk (below_step HB1.out hb2); clear ho2 hb2))
  go_loopw [7] (fun v6 W => ∃ (j : Nat) (num : List Int), v6 = .int .i64 (j : Int) ∧ j ≤ l.length ∧ Aside0 (num.length = ys.length) ∧ Aside0 (numGo l (l.length - j) j num = some nm) ∧ Aside0 (Kd.R (Kd.int .i64) 3 W w.heap.size (fun k_ => some k_ ≠ (Value.slice A2 ys.length c2).ownBlock) (.slice A1 l.length c1) l) ∧ Aside0 (Kd.R (Kd.int .i64) 3 W w.heap.size (fun k_ => some k_ ≠ (Value.slice A1 l.length c1).ownBlock) (.slice A2 ys.length c2) num) ∧ Aside0 (Below w.heap.size w W)) (fun v6 _ => l.length - (intOf v6).toNat)
  case atStart => exact ⟨0, ys, rfl, Nat.zero_le _, ⟨rfl⟩, ⟨by rw [Nys.out, Int.toNat_natCast]; exact HN.out⟩, ⟨Kd.R_mono HO1'.out (fun _ h => h.2)⟩, ⟨Kd.R_mono HO2'.out (fun _ h => h.2)⟩, HB2⟩
  case round =>
    obtain ⟨j, num, rfl, hj, HX, HG, HO, HP, HB⟩ := hrel
    by_cases hlt : j < l.length
    · have hg := HG.out
      rw [show l.length - j = (l.length - (j + 1)) + 1 by omega] at hg
      simp only [numGo] at hg
      split at hg
      rotate_left
      · simp at hg
      rename_i hcn
      obtain ⟨a0, a1_⟩ := hcn
      have HG2 := Aside0.mk hg
      clear hg HG
      obtain ⟨g, cg, eg, hgw, hgl, -⟩ := Kd.R_form HP.out (by omega)
      rw [HX.out] at eg a1_
      cases eg
      obtain ⟨ad, ea, x0⟩ := Kd.at_int (Kd.R_reads' HO.out).2.2 (j : Int) (by omega) (by omega)
      cases ea
      simp only [Int.toNat_natCast] at x0
      obtain ⟨ca, fa⟩ := Kd.R_celln (0 : Int) HP.out _ a0 a1_
      have HP2 := Aside0.mk (Kd.R_putn HP.out (rd l (j : Int)) (j : Int))
      have HOa := Aside0.mk (Kd.R_far (p := ⟨g, (rd l (j : Int)).toNat, none⟩) HO.out (fun k_ hk e_ => hk (by rw [e_]; rfl)) (.int .i64 (j : Int)))
      have HBa := Aside0.mk (below_set (j := (rd l (j : Int)).toNat) (v := .int .i64 (j : Int)) HB.out hgw)
      go_wp2
      go_roundw
      case rel => exact ⟨j + 1, _, by go_num, by omega, ⟨by simpa using HX.out⟩, HG2, HOa, HP2, HBa⟩
      case measure => simp [intOf]; omega
    · have hnn : num = nm := by
        have hg := HG.out
        rw [show l.length - j = 0 by omega] at hg
        simpa [numGo] using hg
      subst hnn
      clear HG
      skip
      go_wp2
      go_loopw [8, 9] (fun v8 v9 W => ∃ (i : Nat) (xs : List S49), v9 = .int .i64 (i : Int) ∧ i ≤ l.length ∧ Aside0 (outGo l0 l num (l.length - i) i xs = some r) ∧ Aside0 (Kd.R (Kd.int .i64) 3 W w.heap.size (fun k_ => some k_ ≠ (Value.slice A2 ys.length c2).ownBlock) (.slice A1 l.length c1) l) ∧ Aside0 (Kd.R (Kd.int .i64) 3 W w.heap.size (fun k_ => some k_ ≠ (Value.slice A1 l.length c1).ownBlock) (.slice A2 ys.length c2) num) ∧ Aside0 (Kd.R k49 49 W w.heap.size (fun _ => True) v8 xs) ∧ Aside0 (Below w.heap.size w W)) (fun _ v9 _ => l.length - (intOf v9).toNat)
      case atStart => exact ⟨0, [], rfl, Nat.zero_le _, HOut, HO, HP, ⟨Kd.R_nil _ _ _ _ _⟩, HB⟩
      case round =>
        obtain ⟨i, xs, rfl, hi, HG, HOl, HPn, HU, HBn⟩ := hrel
        by_cases hlt2 : i < l.length
        · have hg := HG.out
          rw [show l.length - i = (l.length - (i + 1)) + 1 by omega] at hg
          simp only [outGo] at hg
          split at hg
          rotate_left
          · simp at hg
          rename_i hcn
          obtain ⟨⟨b0, b1, b2⟩, b3⟩ := hcn
          obtain ⟨p, hp⟩ : ∃ p, p = rd l (i : Int) := ⟨_, rfl⟩
          rw [← hp] at b0 b1 b3 hg
          obtain ⟨n, hn⟩ : ∃ n, n = J49 l0 p := ⟨_, rfl⟩
          rw [← hn] at b3 hg
          obtain ⟨ad, ea, x0⟩ := Kd.at_int (Kd.R_reads' HOl.out).2.2 (i : Int) (by omega) (by omega)
          cases ea
          simp only [Int.toNat_natCast] at x0
          rw [← hp] at x0
          obtain ⟨ad2, ea, y0, y1, y2, y3, y4, y5⟩ := at_T49 (Kd.C_below hr0 HBn.out) p b0 b1
          cases ea
          rw [← hn] at y0 y1 y2 y3 y4 y5
          have HP_ := Aside0.mk hp
          have HN_ := Aside0.mk hn
          have HL := Aside0.mk b2
          clear hp hn HG b2
          by_cases hleaf : n.f4 = -1 ∧ n.f5 = -1
          · have hl := decide_eq_true hleaf
            have HG2 := Aside0.mk hg
            have hre : renum num n = n := by unfold renum; rw [if_pos hleaf]
            have HRe := Aside0.mk hre
            clear hg hleaf b3 hre
            go_wp2_with (first
              | (go_at_call 53; refine (refLeaf_calls _ _ _ _ _ _ _).mono ?_; rintro e w' ⟨rfl, rfl⟩)
              | ((with_reducible refine gate_builtin (b := .append) (xs := #[.tmp 58, .tmp 60]) rfl ?_); at_builtin; refine Kd.R_append k49 (w0 := w) w.heap.size rfl (.tmp 58) (.tmp 60) 22 49 (.agg #[(.int .i64 0), (.int .i64 0), (.int .i64 0), (.int .i64 0), (.int .i64 0), (.int .i64 0)]) 48 rfl Try.underlying22 info49 rfl (by decide) (by omega) _ xs n [.int .i64 n.f0, .int .i64 n.f1, .int .i64 n.f2, .int .i64 n.f3, .int .i64 n.f4, .int .i64 n.f5] (fun _ => True) (fun _ => False) rfl ?eL ?aP (fun _ hk => hk.elim) ?aF ?aO ?aB ?aS ?aL ?_; (case eL => first | rfl | (show Value.slice _ 1 1 = Value.slice _ 1 1; simp)); (case aP => exact k49_mkM _ _ _ _); (case aF => exact fun _ _ => trivial); (case aO => ((with_reducible repeat (first | apply Kd.R_alloc | apply Kd.R_drewN | apply Kd.R_drew)); exact HU.out)); (case aB => (repeat (first | (with_reducible first | exact HBn.out | apply below_alloc | apply pw_below_drewN | apply below_drew1) | exact HBn.out))); (case aS => exact below_size (by (repeat (first | (with_reducible first | exact HBn.out | apply below_alloc | apply pw_below_drewN | apply below_drew1) | exact HBn.out)))); (case aL => have := HL.out; omega); intro v5 w5 ho5 hb5 hg5 hat5; have HOl' := Aside0.mk (Kd.R_over (by ((with_reducible repeat (first | apply Kd.R_alloc | apply Kd.R_drewN | apply Kd.R_drew)); exact HOl.out)) (show Kd.R k49 49 _ w.heap.size (fun _ => True) _ xs by ((with_reducible repeat (first | apply Kd.R_alloc | apply Kd.R_drewN | apply Kd.R_drew)); exact HU.out)) (by decide) hg5); have HPn' := Aside0.mk (Kd.R_over (by ((with_reducible repeat (first | apply Kd.R_alloc | apply Kd.R_drewN | apply Kd.R_drew)); exact HPn.out)) (show Kd.R k49 49 _ w.heap.size (fun _ => True) _ xs by ((with_reducible repeat (first | apply Kd.R_alloc | apply Kd.R_drewN | apply Kd.R_drew)); exact HU.out)) (by decide) hg5); have HU' := Aside0.mk ho5; have HB' := Aside0.mk hb5; clear ho5 hb5 hg5 hat5))
            go_roundw
            case rel => exact ⟨i + 1, _, by go_num, by omega, HG2, HOl', HPn', ⟨by rw [HRe.out]; exact HU'.out⟩, HB'⟩
            case measure => simp [intOf]; omega
          · have hl := decide_eq_false hleaf
            obtain ⟨⟨d0, d1⟩, d2, d3⟩ := b3.resolve_left hleaf
            rw [HX.out] at d1 d3
            have hnp : 0 < num.length := by rw [HX.out]; omega
            obtain ⟨g, cg, eg, hgw, hgl, -⟩ := Kd.R_form HPn.out hnp
            rw [HX.out] at eg
            cases eg
            have HG2 := Aside0.mk hg
            obtain ⟨n2, hn2⟩ : ∃ n2 : S49, n2 = ⟨n.f0, n.f1, n.f2, n.f3, rd num n.f4, rd num n.f5⟩ := ⟨_, rfl⟩
            have hre : renum num n = n2 := by unfold renum; rw [if_neg hleaf, hn2]
            have HRe := Aside0.mk hre
            clear hg hleaf b3 hre hnp
            obtain ⟨ca, fa⟩ := Kd.R_celln (0 : Int) HPn.out _ d0 d1
            obtain ⟨cb, fb⟩ := Kd.R_celln (0 : Int) HPn.out _ d2 d3
            have HN2 := Aside0.mk hn2
            clear hn2
            go_wp2_with (go_at_call 53; refine (refLeaf_calls _ _ _ _ _ _ _).mono ?_; rintro e w' ⟨rfl, rfl⟩)
            go_region
            go_wp2_with ((with_reducible refine gate_builtin (b := .append) (xs := #[.tmp 58, .tmp 60]) rfl ?_); at_builtin; rw [← World.alloc_drew]; refine Kd.R_append k49 (w0 := w) w.heap.size rfl (.tmp 58) (.tmp 60) 22 49 (.agg #[(.int .i64 0), (.int .i64 0), (.int .i64 0), (.int .i64 0), (.int .i64 0), (.int .i64 0)]) 48 rfl Try.underlying22 info49 rfl (by decide) (by omega) _ xs (⟨n.f0, n.f1, n.f2, n.f3, rd num n.f4, rd num n.f5⟩ : S49) [.int .i64 n.f0, .int .i64 n.f1, .int .i64 n.f2, .int .i64 n.f3, .int .i64 (rd num n.f4), .int .i64 (rd num n.f5)] (fun _ => True) (fun _ => False) rfl ?eL ?aP (fun _ hk => hk.elim) ?aF ?aO ?aB ?aS ?aL ?_; (case eL => first | rfl | (show Value.slice _ 1 1 = Value.slice _ 1 1; simp)); (case aP => exact k49_mkM _ _ _ _); (case aF => exact fun _ _ => trivial); (case aO => ((with_reducible repeat (first | apply Kd.R_alloc | apply Kd.R_drewN | apply Kd.R_drew)); exact HU.out)); (case aB => (repeat (first | (with_reducible first | exact HBn.out | apply below_alloc | apply pw_below_drewN | apply below_drew1) | exact HBn.out))); (case aS => exact below_size (by (repeat (first | (with_reducible first | exact HBn.out | apply below_alloc | apply pw_below_drewN | apply below_drew1) | exact HBn.out)))); (case aL => have := HL.out; omega); intro v5 w5 ho5 hb5 hg5 hat5; have HOl' := Aside0.mk (Kd.R_over (by ((with_reducible repeat (first | apply Kd.R_alloc | apply Kd.R_drewN | apply Kd.R_drew)); exact HOl.out)) (show Kd.R k49 49 _ w.heap.size (fun _ => True) _ xs by ((with_reducible repeat (first | apply Kd.R_alloc | apply Kd.R_drewN | apply Kd.R_drew)); exact HU.out)) (by decide) hg5); have HPn' := Aside0.mk (Kd.R_over (by ((with_reducible repeat (first | apply Kd.R_alloc | apply Kd.R_drewN | apply Kd.R_drew)); exact HPn.out)) (show Kd.R k49 49 _ w.heap.size (fun _ => True) _ xs by ((with_reducible repeat (first | apply Kd.R_alloc | apply Kd.R_drewN | apply Kd.R_drew)); exact HU.out)) (by decide) hg5); have HU' := Aside0.mk ho5; have HB' := Aside0.mk hb5; clear ho5 hb5 hg5 hat5)
            go_roundw
            case rel => exact ⟨i + 1, _, by go_num, by omega, HG2, HOl', HPn', ⟨by rw [HRe.out, HN2.out]; exact HU'.out⟩, HB'⟩
            case measure => simp [intOf]; omega
        · go_wp2
          go_ret
          have hg := HG.out
          rw [show l.length - i = 0 by omega] at hg
          simp only [outGo, Option.some.injEq] at hg
          subst hg
          exact ⟨_, rfl, HU.out, HBn.out⟩
end Go.Proofs.Ytmmjkebboonnkaa.P
