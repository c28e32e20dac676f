/- P.weighSums_holds, part 11 of 24: the contracts of the Go functions that the law calls, its own walk, and its plain law, for every input that the statement speaks of. -/
import Derived.Test.YtmmjkebboonnkaaMSums6
import Derived.BigRegion
import Derived.Test.YtmmjkebboonnkaaMSums2
import Derived.Test.YtmmjkebboonnkaaMSums3
set_option linter.unusedVariables false
set_option linter.unusedSimpArgs false
/- E10 -/
namespace Go.Proofs.Ytmmjkebboonnkaa.P
open Go.RowKit Go.Proofs.YtmmjkebboonnkaaW.PrintWords Go.Proofs.YtmmjkebboonnkaaW.PrintLast Go.Proofs.YtmmjkebboonnkaaW.PrintMore
def deepGo (l0 : List S49) (l : List Int) : Nat → Nat → List Int → Int → Option Int
  | 0, _, _, most => some most
  | d + 1, i, ds, most =>
    if (0 ≤ rd l (i : Int) ∧ rd l (i : Int) < (l0.length : Int)) ∧ rd l (i : Int) < (ds.length : Int) then
      if (J49 l0 (rd l (i : Int))).f4 = -1 ∧ (J49 l0 (rd l (i : Int))).f5 = -1 then deepGo l0 l d (i + 1) ds (mx most (rd ds (rd l (i : Int))))
      else if (0 ≤ (J49 l0 (rd l (i : Int))).f4 ∧ (J49 l0 (rd l (i : Int))).f4 < (ds.length : Int)) ∧ 0 ≤ (J49 l0 (rd l (i : Int))).f5 ∧ (J49 l0 (rd l (i : Int))).f5 < (ds.length : Int) then
        deepGo l0 l d (i + 1) ((ds.set (J49 l0 (rd l (i : Int))).f4.toNat (wrap64 (rd ds (rd l (i : Int)) + 1))).set (J49 l0 (rd l (i : Int))).f5.toNat (wrap64 (rd ds (rd l (i : Int)) + 1))) (mx most (rd ds (rd l (i : Int))))
      else none
    else none
def larchref17_Deep.f (k : Nat) (l0 : List (S49)) : Option (Int × Int) :=
  (larchref17_keys.f k l0).bind fun t => if t.2 = 0 then (larchref17_Order.f k l0 0).bind fun l => if l0.length ≤ 1000000 ∧ l.length ≤ 1000000 then (deepGo l0 l l.length 0 (List.replicate l0.length 0) 0).map fun m => (m, 0) else none else some (0, t.2)
set_option maxHeartbeats 8000000 in
set_option maxRecDepth 100000 in
theorem larchref17_Deep.calls (k : Nat) (A0 : Option Addr) (c0 : Nat) (l0 : List (S49)) (r1 : Int) (r2 : Int) (w : World) (hr0 : Kd.C k49 w A0 l0.length l0) (hc0 : l0.length ≤ c0) (h : larchref17_Deep.f k l0 = some (r1, r2)) :
    Calls Try.prog 39 #[.slice A0 l0.length c0] w fun e w' => e = .returned (.tuple #[.int .i64 r1, .int .i64 r2]) ∧ Below w.heap.size w w' := by
  have hu49 := Try.underlying49
  unfold larchref17_Deep.f at h
  obtain ⟨⟨t1, t2⟩, he, h⟩ := Option.bind_eq_some_iff.mp h
  have HE := Aside0.mk he
  clear he
  by_cases e0 : t2 = 0
  rotate_left
  · rw [if_neg e0] at h
    simp only [Option.some.injEq, Prod.mk.injEq] at h
    obtain ⟨rfl, rfl⟩ := h
    have e1 : (t2 != 0) = true := bne_iff_ne.mpr e0
    go_enter Try.func39, Try.ntmps39
    go_wp2_with (go_at_call 46; (with_reducible refine (larchref17_keys.calls k _ _ l0 t1 t2 _ ?s1 ?s2 HE.out).mono ?_); (case s1 => exact hr0); (case s2 => exact hc0); rintro e w1 ⟨v1, rfl, ho1, hb1⟩)
    go_ret2
    exact ⟨rfl, hb1⟩
  rw [if_pos e0] at h
  subst e0
  obtain ⟨l, hl_, h⟩ := Option.bind_eq_some_iff.mp h
  split at h
  rotate_left
  · simp at h
  rename_i hls
  obtain ⟨hl0, hll⟩ := hls
  obtain ⟨mo, hmo, h⟩ := Option.map_eq_some_iff.mp h
  simp only [Prod.mk.injEq] at h
  obtain ⟨rfl, rfl⟩ := h
  have HL_ := Aside0.mk hl_
  have H := Aside0.mk hmo
  clear hl_ hmo
  obtain ⟨ys, hys⟩ : ∃ ys : List Int, ys = List.replicate (l0.length : Int).toNat 0 := ⟨_, rfl⟩
  have hyl : ys.length = l0.length := by rw [hys]; simp
  have Nys := Aside0.mk hys
  have Hyl := Aside0.mk hyl
  clear hys hyl
  go_enter Try.func39, Try.ntmps39
  go_wp2_with (first
    | (go_at_call 46; (with_reducible refine (larchref17_keys.calls k _ _ l0 t1 0 _ ?s1 ?s2 HE.out).mono ?_); (case s1 => exact hr0); (case s2 => exact hc0); rintro e w0 ⟨v0, rfl, ho0, hb0⟩; have HB0 := Aside0.mk hb0; clear ho0 hb0)
    | (go_at_call 27; (with_reducible refine (larchref17_Order.calls k _ _ l0 0 l _ ?s1 ?s2 HL_.out).mono ?_); (case s1 => exact Kd.C_below hr0 HB0.out); (case s2 => exact hc0); rintro e w1 ⟨v1, rfl, ho1, hb1⟩; obtain ⟨A1, c1, rfl⟩ := Kd.R_slice ho1; have HO1 := Aside0.mk (Kd.R_lower ho1 HB0.out.size); have HB1 := Aside0.mk (below_step HB0.out hb1); clear ho1 hb1)
    | ((with_reducible refine gate_dst (N := 23) rfl ?_); refine Kd.R_make (Kd.int .i64) _ 3 rfl (N := 23) rfl 23 _ _ rfl (l0.length : Int) rfl rfl Try.underlying23 (.int .i64 0) 8 info3 rfl (by decide) (by omega) 0 (ok := fun _ => True) (okp := fun _ => True) rfl (fun _ hk => hk) trivial (by omega) (by omega) (Below.refl _ _) (Nat.le_refl _) ?_; intro v705 w2 ho2 hb2 hg_ hnew_; clear hg_ hnew_; rw [← Nys.out] at ho2; obtain ⟨A2, c2, rfl⟩ := Kd.R_slice ho2; have HO1' := Aside0.mk (Kd.R_elder' HO1.out (Kd.R_base ho2) hb2); have HO2 := Aside0.mk (Kd.R_new' ho2 (Kd.R_lt HO1.out)); have HO2' := Aside0.mk (Kd.R_lower HO2.out HB1.out.size); have HB2 := Aside0.mk (below_step HB1.out hb2); clear ho2 hb2))
  go_loopw [8, 9] (fun v8 v9 W => ∃ (i : Nat) (ds : List Int) (m : Int), v8 = .int .i64 m ∧ v9 = .int .i64 (i : Int) ∧ i ≤ l.length ∧ Aside0 (ds.length = ys.length) ∧ Aside0 (deepGo l0 l (l.length - i) i ds m = some mo) ∧ Aside0 (Kd.R (Kd.int .i64) 3 W w.heap.size (fun k_ => some k_ ≠ (Value.slice A2 ys.length c2).ownBlock) (.slice A1 l.length c1) l) ∧ Aside0 (Kd.R (Kd.int .i64) 3 W w.heap.size (fun k_ => some k_ ≠ (Value.slice A1 l.length c1).ownBlock) (.slice A2 ys.length c2) ds) ∧ Aside0 (Below w.heap.size w W)) (fun _ v9 _ => l.length - (intOf v9).toNat)
  case atStart => exact ⟨0, ys, 0, rfl, rfl, Nat.zero_le _, ⟨rfl⟩, ⟨by rw [Nys.out, Int.toNat_natCast]; exact H.out⟩, ⟨Kd.R_mono HO1'.out (fun _ h => h.2)⟩, ⟨Kd.R_mono HO2'.out (fun _ h => h.2)⟩, HB2⟩
  case round =>
    obtain ⟨i, ds, m, rfl, rfl, hi, HX, HG, HOl, HPn, HBn⟩ := hrel
    by_cases hlt2 : i < l.length
    · have hg := HG.out
      rw [show l.length - i = (l.length - (i + 1)) + 1 by omega] at hg
      simp only [deepGo] at hg
      split at hg
      rotate_left
      · simp at hg
      rename_i hcn
      obtain ⟨⟨b0, b1⟩, b2⟩ := hcn
      obtain ⟨p, hp⟩ : ∃ p, p = rd l (i : Int) := ⟨_, rfl⟩
      rw [← hp] at b0 b1 b2 hg
      obtain ⟨n, hn⟩ : ∃ n, n = J49 l0 p := ⟨_, rfl⟩
      rw [← hn] at hg
      obtain ⟨x, hx⟩ : ∃ x, x = rd ds p := ⟨_, rfl⟩
      rw [← hx] at hg
      obtain ⟨m2, hm2⟩ : ∃ m2, m2 = mx m x := ⟨_, rfl⟩
      rw [← hm2] at hg
      have hm2_ : (if m < x then x else m) = m2 := by rw [hm2]; rfl
      obtain ⟨g1, cg1, eg1, hgw1, hgl1, -⟩ := Kd.R_form HOl.out (by omega)
      cases eg1
      obtain ⟨x0, xf0⟩ := Kd.R_celln (0 : Int) HOl.out (i : Int) (by omega) (by omega)
      rw [show rdOf 0 l (i : Int) = p from hp.symm] at x0
      simp only [Int.toNat_natCast] at x0 xf0
      obtain ⟨ad2, ea, y0, y1, y2, y3, y4, y5⟩ := at_T49 (Kd.C_below hr0 HBn.out) p b0 b1
      cases ea
      rw [← hn] at y0 y1 y2 y3 y4 y5
      have hnp : 0 < ds.length := by omega
      obtain ⟨g, cg, eg, hgw, hgl, -⟩ := Kd.R_form HPn.out hnp
      rw [HX.out] at eg
      cases eg
      rw [HX.out] at b2
      obtain ⟨cx, fx⟩ := Kd.R_celln (0 : Int) HPn.out _ b0 b2
      rw [show rdOf 0 ds p = x from hx.symm] at cx
      have HP_ := Aside0.mk hp
      have HN_ := Aside0.mk hn
      have HX_ := Aside0.mk hx
      have HM_ := Aside0.mk hm2
      clear hp hn HG hnp hx hm2
      by_cases hleaf : n.f4 = -1 ∧ n.f5 = -1
      · have hl := decide_eq_true hleaf
        rw [if_pos hleaf] at hg
        have HG2 := Aside0.mk hg
        clear hg hleaf
        go_wp2_with (go_at_call 53; refine (refLeaf_calls _ _ _ _ _ _ _).mono ?_; rintro e w' ⟨rfl, rfl⟩)
        go_roundw
        case rel => exact ⟨i + 1, ds, m2, rfl, by go_num, by omega, HX, HG2, ⟨Kd.R_alloc (Kd.R_alloc HOl.out _) _⟩, ⟨Kd.R_alloc (Kd.R_alloc HPn.out _) _⟩, ⟨below_alloc (below_alloc HBn.out _) _⟩⟩
        case measure => simp [intOf]; omega
      · have hl := decide_eq_false hleaf
        rw [if_neg hleaf] at hg
        split at hg
        rotate_left
        · simp at hg
        rename_i hcc
        obtain ⟨⟨d0, d1⟩, d2, d3⟩ := hcc
        rw [HX.out] at d1 d3
        have HG2 := Aside0.mk hg
        clear hg hleaf
        obtain ⟨z, hz⟩ : ∃ z, z = wrap64 (x + 1) := ⟨_, rfl⟩
        have HZ := Aside0.mk hz
        obtain ⟨ca, fa⟩ := Kd.R_celln (0 : Int) HPn.out _ d0 d1
        have HO3 := Aside0.mk (Kd.R_putn HPn.out n.f4 z)
        obtain ⟨cb, fb⟩ := Kd.R_celln (0 : Int) HO3.out _ d2 d3
        have HO4 := Aside0.mk (Kd.R_putn HO3.out n.f5 z)
        have HB4 := Aside0.mk (below_set (j := n.f5.toNat) (v := .int .i64 z) (below_set (j := n.f4.toNat) (v := .int .i64 z) HBn.out hgw) hgw)
        have HOa := Aside0.mk (Kd.R_far (p := ⟨g, n.f5.toNat, none⟩) (Kd.R_far (p := ⟨g, n.f4.toNat, none⟩) HOl.out (fun k_ hk e_ => hk (by rw [e_]; rfl)) (.int .i64 z)) (fun k_ hk e_ => hk (by rw [e_]; rfl)) (.int .i64 z))
        subst hz
        clear HZ
        go_wp2_with (go_at_call 53; refine (refLeaf_calls _ _ _ _ _ _ _).mono ?_; rintro e w' ⟨rfl, rfl⟩)
        go_region
        go_wp2
        go_roundw
        case rel => exact ⟨i + 1, _, m2, rfl, by go_num, by omega, ⟨by simpa using HX.out⟩, HG2, ⟨Kd.R_drew (Kd.R_alloc (Kd.R_alloc HOa.out _) _)⟩, ⟨Kd.R_drew (Kd.R_alloc (Kd.R_alloc HO4.out _) _)⟩, ⟨below_drew (below_alloc (below_alloc HB4.out _) _)⟩⟩
        case measure => simp [intOf]; omega
    · go_wp2
      go_ret2
      have hg := HG.out
      rw [show l.length - i = 0 by omega] at hg
      simp only [deepGo, Option.some.injEq] at hg
      subst hg
      exact ⟨rfl, HBn.out⟩
end Go.Proofs.Ytmmjkebboonnkaa.P
