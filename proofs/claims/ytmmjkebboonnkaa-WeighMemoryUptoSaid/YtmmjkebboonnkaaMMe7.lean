/- P.weighMemory_holds, part 8 of 28: the contracts of the Go functions that the law calls, its own walk, and its plain law, for every input that the statement speaks of. -/
import Derived.Test.YtmmjkebboonnkaaMMe6
import Derived.Test.YtmmjkebboonnkaaMMe2
set_option linter.unusedVariables false
set_option linter.unusedSimpArgs false
/- E9 -/
namespace Go.Proofs.Ytmmjkebboonnkaa.P
open Go.RowKit Go.Proofs.YtmmjkebboonnkaaW.PrintWords Go.Proofs.YtmmjkebboonnkaaW.PrintLast Go.Proofs.YtmmjkebboonnkaaW.PrintMore
theorem Kd.R_make0 {P : Program} {ops : Array Oper} {rest : List Oper} {o : Oper} {a : Act} {Q : Exit → Act → World → Prop} {α : Type} (d : Kd α) {w0 W : World} (base e : Nat) (hgd : o.guard = none) {N : Tmp} (_hd : o.dst = some N) (t : TypeId) (x y : Operand) (ho : o.op = .makeSlice t x y) (n : Nat) (hx : a.eval x = .int .i64 0) (hy : a.eval y = .int .i64 (n : Int))
    (ht : P.underlying t = some (.slice e)) (z : Value) (bytes : Nat) (hinfo : (P.info? e).map (fun i => (i.zero, i.size, i.bytes)) = some (some z, d.sz, bytes)) (hl : bytes * n ≤ 140737488355328 ∧ n ≤ 140737488355328)
    {ok : Nat → Prop} (hfresh : ok W.heap.size) (HB : Below base w0 W) (hbase : base ≤ W.heap.size)
    (h : ∀ w1, d.R e w1 base ok (.slice (some ⟨W.heap.size, 0, none⟩) 0 n) [] → Below base w0 w1 → W.grownBy w1 none → wpList P ops Q rest (a.put o.dst (.slice (some ⟨W.heap.size, 0, none⟩) 0 n)) w1) : wpList P ops Q (o :: rest) a W := by
  obtain ⟨i0, hi, hzz⟩ := Option.map_eq_some_iff.1 hinfo
  simp only [Prod.mk.injEq] at hzz
  obtain ⟨hz0, hz1, hz2⟩ := hzz
  refine wpList_make_own W hgd x y t ho base e i0 z d.sz ht hi hz0 hz1 .i64 .i64 (n : Int) n hx hy rfl (by rw [hz2]; omega) (by unfold maxLen; omega) hbase ?_
  intro w1 hown hg1
  refine h w1 ⟨fun k hk => ?_, [], hown, Reps.none _ _⟩ (pw_below_grown HB none hbase hg1 (fun k hk => by simp at hk)) hg1
  simp [Value.ownBlock] at hk
  subst hk
  exact hfresh
def table_sub.f (k : Nat) (l0 : List (S49)) (a1 : Int) : Option ((List (S49))) := (table_order.f k l0 a1).bind (subOf l0)
theorem table_sub.mono : ∀ a0 a1 k, LeO (table_sub.f k a0 a1) (table_sub.f (k + 1) a0 a1) := by
  intro a0 a1 k
  unfold table_sub.f
  exact LeO.bind (table_order.mono a0 a1 k) (fun _ => LeO.refl _)
set_option maxHeartbeats 8000000 in
set_option maxRecDepth 100000 in
theorem table_sub.calls (k : Nat) (A0 : Option Addr) (c0 : Nat) (l0 : List (S49)) (a1 : Int) (r : List (S49)) (w : World) (hr0 : Kd.C k49 w A0 l0.length l0) (hc0 : l0.length ≤ c0) (h : table_sub.f k l0 a1 = some r) :
    Calls Try.prog 64 #[.slice A0 l0.length c0, .int .i64 a1] w fun e w' => ∃ v0_ : Value, e = .returned (v0_) ∧ Kd.R k49 49 w' w.heap.size (fun _ => True) v0_ r ∧ Below w.heap.size w w' := by
  have hu49 := Try.underlying49
  unfold table_sub.f at h
  obtain ⟨l, he, h⟩ := Option.bind_eq_some_iff.mp h
  unfold subOf at h
  split at h
  rotate_left
  · simp at h
  rename_i hls
  obtain ⟨hl0, hll⟩ := hls
  obtain ⟨nm, hnm, h⟩ := Option.bind_eq_some_iff.mp h
  have HE := Aside0.mk he
  have HN := Aside0.mk hnm
  have HOut := Aside0.mk h
  clear he hnm h
  obtain ⟨ys, hys⟩ : ∃ ys : List Int, ys = List.replicate (l0.length : Int).toNat 0 := ⟨_, rfl⟩
  have hyl : ys.length = l0.length := by rw [hys]; simp
  have Nys := Aside0.mk hys
  have Hyl := Aside0.mk hyl
  clear hys hyl
  go_enter Try.func64, Try.ntmps64
  go_wp2_with (first
    | (go_at_call 65; (with_reducible refine (table_order.calls k _ _ l0 a1 l _ ?s1 ?s2 HE.out).mono ?_); (case s1 => exact hr0); (case s2 => exact hc0); rintro e w1 ⟨v1, rfl, ho1, hb1⟩; obtain ⟨A1, c1, rfl⟩ := Kd.R_slice ho1; have HO1 := Aside0.mk ho1; have HB1 := Aside0.mk hb1; clear ho1 hb1)
    | ((with_reducible refine gate_dst (N := 18) rfl ?_); refine Kd.R_make (Kd.int .i64) _ 3 rfl (N := 18) rfl 23 _ _ rfl (l0.length : Int) rfl rfl Try.underlying23 (.int .i64 0) 8 info3 rfl (by decide) (by omega) 0 (ok := fun _ => True) (okp := fun _ => True) rfl (fun _ hk => hk) trivial (by omega) (by omega) (Below.refl _ _) (Nat.le_refl _) ?_; intro v705 w2 ho2 hb2 hg_ hnew_; clear hg_ hnew_; rw [← Nys.out] at ho2; obtain ⟨A2, c2, rfl⟩ := Kd.R_slice ho2; have HO1' := Aside0.mk (Kd.R_elder' HO1.out (Kd.R_base ho2) hb2); have HO2 := Aside0.mk (Kd.R_new' ho2 (Kd.R_lt HO1.out)); have HO2' := Aside0.mk (Kd.R_lower HO2.out HB1.out.size); have HB2 := Aside0.mk (below_step HB1.out hb2); clear ho2 hb2))
  go_loopw [21] (fun v6 W => ∃ (j : Nat) (num : List Int), v6 = .int .i64 (j : Int) ∧ j ≤ l.length ∧ Aside0 (num.length = ys.length) ∧ Aside0 (numGo l (l.length - j) j num = some nm) ∧ Aside0 (Kd.R (Kd.int .i64) 3 W w.heap.size (fun k_ => some k_ ≠ (Value.slice A2 ys.length c2).ownBlock) (.slice A1 l.length c1) l) ∧ Aside0 (Kd.R (Kd.int .i64) 3 W w.heap.size (fun k_ => some k_ ≠ (Value.slice A1 l.length c1).ownBlock) (.slice A2 ys.length c2) num) ∧ Aside0 (Below w.heap.size w W)) (fun v6 _ => l.length - (intOf v6).toNat)
  case atStart => exact ⟨0, ys, rfl, Nat.zero_le _, ⟨rfl⟩, ⟨by rw [Nys.out, Int.toNat_natCast]; exact HN.out⟩, ⟨Kd.R_mono HO1'.out (fun _ h => h.2)⟩, ⟨Kd.R_mono HO2'.out (fun _ h => h.2)⟩, HB2⟩
  case round =>
    obtain ⟨j, num, rfl, hj, HX, HG, HO, HP, HB⟩ := hrel
    by_cases hlt : j < l.length
    · have hg := HG.out
      rw [show l.length - j = (l.length - (j + 1)) + 1 by omega] at hg
      simp only [numGo] at hg
      split at hg
      rotate_left
      · simp at hg
      rename_i hcn
      obtain ⟨a0, a1_⟩ := hcn
      have HG2 := Aside0.mk hg
      clear hg HG
      obtain ⟨g, cg, eg, hgw, hgl, -⟩ := Kd.R_form HP.out (by omega)
      rw [HX.out] at eg a1_
      cases eg
      obtain ⟨ad, ea, x0⟩ := Kd.at_int (Kd.R_reads' HO.out).2.2 (j : Int) (by omega) (by omega)
      cases ea
      simp only [Int.toNat_natCast] at x0
      obtain ⟨ca, fa⟩ := Kd.R_celln (0 : Int) HP.out _ a0 a1_
      have HP2 := Aside0.mk (Kd.R_putn HP.out (rd l (j : Int)) (j : Int))
      have HOa := Aside0.mk (Kd.R_far (p := ⟨g, (rd l (j : Int)).toNat, none⟩) HO.out (fun k_ hk e_ => hk (by rw [e_]; rfl)) (.int .i64 (j : Int)))
      have HBa := Aside0.mk (below_set (j := (rd l (j : Int)).toNat) (v := .int .i64 (j : Int)) HB.out hgw)
      go_wp2
      go_roundw
      case rel => exact ⟨j + 1, _, by go_num, by omega, ⟨by simpa using HX.out⟩, HG2, HOa, HP2, HBa⟩
      case measure => simp [intOf]; omega
    · have hnn : num = nm := by
        have hg := HG.out
        rw [show l.length - j = 0 by omega] at hg
        simpa [numGo] using hg
      subst hnn
      clear HG
      go_wp2_with ((with_reducible refine gate_dst (N := 33) rfl ?_); refine Kd.R_make0 k49 (w0 := w) w.heap.size 49 rfl (N := 33) rfl 22 _ _ rfl l.length rfl rfl Try.underlying22 (.agg #[(.int .i64 0), (.int .i64 0), (.int .i64 0), (.int .i64 0), (.int .i64 0), (.int .i64 0)]) 48 info49 (by omega) (ok := fun k_ => some k_ ≠ (Value.slice A1 l.length c1).ownBlock ∧ some k_ ≠ (Value.slice A2 ys.length c2).ownBlock) ?mF HB.out HB.out.size ?_; (case mF => exact ⟨Kd.fresh' (Kd.R_lt HO.out) _ (Nat.le_refl _), Kd.fresh' (Kd.R_lt HP.out) _ (Nat.le_refl _)⟩); intro w3 ho3 hb3 hg3; have HO3 := Aside0.mk ho3; have HB3 := Aside0.mk hb3; have HOm := Aside0.mk (Kd.R_grown HO.out hg3 (fun _ _ => by simp)); have HPm := Aside0.mk (Kd.R_grown HP.out hg3 (fun _ _ => by simp)); clear ho3 hb3 hg3)
      go_loopw [9, 36] (fun v8 v9 W => ∃ (i : Nat) (xs : List S49), v9 = .int .i64 (i : Int) ∧ i ≤ l.length ∧ Aside0 (outGo l0 l num (l.length - i) i xs = some r) ∧ Aside0 (Kd.R (Kd.int .i64) 3 W w.heap.size (fun k_ => some k_ ≠ (Value.slice A2 ys.length c2).ownBlock) (.slice A1 l.length c1) l) ∧ Aside0 (Kd.R (Kd.int .i64) 3 W w.heap.size (fun k_ => some k_ ≠ (Value.slice A1 l.length c1).ownBlock) (.slice A2 ys.length c2) num) ∧ Aside0 (Kd.R k49 49 W w.heap.size (fun _ => True) v8 xs) ∧ Aside0 (Below w.heap.size w W)) (fun _ v9 _ => l.length - (intOf v9).toNat)
      case atStart => exact ⟨0, [], rfl, Nat.zero_le _, HOut, HOm, HPm, ⟨Kd.R_mono HO3.out (fun _ _ => trivial)⟩, HB3⟩
      case round =>
        obtain ⟨i, xs, rfl, hi, HG, HOl, HPn, HU, HBn⟩ := hrel
        by_cases hlt2 : i < l.length
        · have hg := HG.out
          rw [show l.length - i = (l.length - (i + 1)) + 1 by omega] at hg
          simp only [outGo] at hg
          split at hg
          rotate_left
          · simp at hg
          rename_i hcn
          obtain ⟨⟨b0, b1, b2⟩, b3⟩ := hcn
          obtain ⟨p, hp⟩ : ∃ p, p = rd l (i : Int) := ⟨_, rfl⟩
          rw [← hp] at b0 b1 b3 hg
          obtain ⟨n, hn⟩ : ∃ n, n = J49 l0 p := ⟨_, rfl⟩
          rw [← hn] at b3 hg
          obtain ⟨ad, ea, x0⟩ := Kd.at_int (Kd.R_reads' HOl.out).2.2 (i : Int) (by omega) (by omega)
          cases ea
          simp only [Int.toNat_natCast] at x0
          rw [← hp] at x0
          obtain ⟨ad2, ea, y0, y1, y2, y3, y4, y5⟩ := at_T49 (Kd.C_below hr0 HBn.out) p b0 b1
          cases ea
          rw [← hn] at y0 y1 y2 y3 y4 y5
          have HP_ := Aside0.mk hp
          have HN_ := Aside0.mk hn
          have HL := Aside0.mk b2
          clear hp hn HG b2
          by_cases hleaf : n.f4 = -1 ∧ n.f5 = -1
          · have hl := decide_eq_true hleaf
            have HG2 := Aside0.mk hg
            have hre : renum num n = n := by unfold renum; rw [if_pos hleaf]
            have HRe := Aside0.mk hre
            clear hg hleaf b3 hre
            go_wp2_with (first
              | (go_at_call 66; refine (isLeaf_calls _ _ _ _ _ _ _).mono ?_; rintro e w' ⟨rfl, rfl⟩)
              | ((with_reducible refine gate_builtin (b := .append) (xs := #[.tmp 59, .tmp 61]) rfl ?_); at_builtin; refine Kd.R_append k49 (w0 := w) w.heap.size rfl (.tmp 59) (.tmp 61) 22 49 (.agg #[(.int .i64 0), (.int .i64 0), (.int .i64 0), (.int .i64 0), (.int .i64 0), (.int .i64 0)]) 48 rfl Try.underlying22 info49 rfl (by decide) (by omega) _ xs n [.int .i64 n.f0, .int .i64 n.f1, .int .i64 n.f2, .int .i64 n.f3, .int .i64 n.f4, .int .i64 n.f5] (fun _ => True) (fun _ => False) rfl ?eL ?aP (fun _ hk => hk.elim) ?aF ?aO ?aB ?aS ?aL ?_; (case eL => first | rfl | (show Value.slice _ 1 1 = Value.slice _ 1 1; simp)); (case aP => exact k49_mkM _ _ _ _); (case aF => exact fun _ _ => trivial); (case aO => ((with_reducible repeat (first | apply Kd.R_alloc | apply Kd.R_drewN | apply Kd.R_drew)); exact HU.out)); (case aB => (repeat (first | (with_reducible first | exact HBn.out | apply below_alloc | apply pw_below_drewN | apply below_drew1) | exact HBn.out))); (case aS => exact below_size (by (repeat (first | (with_reducible first | exact HBn.out | apply below_alloc | apply pw_below_drewN | apply below_drew1) | exact HBn.out)))); (case aL => have := HL.out; omega); intro v5 w5 ho5 hb5 hg5 hat5; have HOl' := Aside0.mk (Kd.R_over (by ((with_reducible repeat (first | apply Kd.R_alloc | apply Kd.R_drewN | apply Kd.R_drew)); exact HOl.out)) (show Kd.R k49 49 _ w.heap.size (fun _ => True) _ xs by ((with_reducible repeat (first | apply Kd.R_alloc | apply Kd.R_drewN | apply Kd.R_drew)); exact HU.out)) (by decide) hg5); have HPn' := Aside0.mk (Kd.R_over (by ((with_reducible repeat (first | apply Kd.R_alloc | apply Kd.R_drewN | apply Kd.R_drew)); exact HPn.out)) (show Kd.R k49 49 _ w.heap.size (fun _ => True) _ xs by ((with_reducible repeat (first | apply Kd.R_alloc | apply Kd.R_drewN | apply Kd.R_drew)); exact HU.out)) (by decide) hg5); have HU' := Aside0.mk ho5; have HB' := Aside0.mk hb5; clear ho5 hb5 hg5 hat5))
            go_roundw
            case rel => exact ⟨i + 1, _, by go_num, by omega, HG2, HOl', HPn', ⟨by rw [HRe.out]; exact HU'.out⟩, HB'⟩
            case measure => simp [intOf]; omega
          · have hl := decide_eq_false hleaf
            obtain ⟨⟨d0, d1⟩, d2, d3⟩ := b3.resolve_left hleaf
            rw [HX.out] at d1 d3
            have hnp : 0 < num.length := by rw [HX.out]; omega
            obtain ⟨g, cg, eg, hgw, hgl, -⟩ := Kd.R_form HPn.out hnp
            rw [HX.out] at eg
            cases eg
            have HG2 := Aside0.mk hg
            obtain ⟨n2, hn2⟩ : ∃ n2 : S49, n2 = ⟨n.f0, n.f1, n.f2, n.f3, rd num n.f4, rd num n.f5⟩ := ⟨_, rfl⟩
            have hre : renum num n = n2 := by unfold renum; rw [if_neg hleaf, hn2]
            have HRe := Aside0.mk hre
            clear hg hleaf b3 hre hnp
            obtain ⟨ca, fa⟩ := Kd.R_celln (0 : Int) HPn.out _ d0 d1
            obtain ⟨cb, fb⟩ := Kd.R_celln (0 : Int) HPn.out _ d2 d3
            have HN2 := Aside0.mk hn2
            clear hn2
            go_wp2_with (go_at_call 66; refine (isLeaf_calls _ _ _ _ _ _ _).mono ?_; rintro e w' ⟨rfl, rfl⟩)
            go_region
            go_wp2_with ((with_reducible refine gate_builtin (b := .append) (xs := #[.tmp 59, .tmp 61]) rfl ?_); at_builtin; rw [← World.alloc_drew]; refine Kd.R_append k49 (w0 := w) w.heap.size rfl (.tmp 59) (.tmp 61) 22 49 (.agg #[(.int .i64 0), (.int .i64 0), (.int .i64 0), (.int .i64 0), (.int .i64 0), (.int .i64 0)]) 48 rfl Try.underlying22 info49 rfl (by decide) (by omega) _ xs (⟨n.f0, n.f1, n.f2, n.f3, rd num n.f4, rd num n.f5⟩ : S49) [.int .i64 n.f0, .int .i64 n.f1, .int .i64 n.f2, .int .i64 n.f3, .int .i64 (rd num n.f4), .int .i64 (rd num n.f5)] (fun _ => True) (fun _ => False) rfl ?eL ?aP (fun _ hk => hk.elim) ?aF ?aO ?aB ?aS ?aL ?_; (case eL => first | rfl | (show Value.slice _ 1 1 = Value.slice _ 1 1; simp)); (case aP => exact k49_mkM _ _ _ _); (case aF => exact fun _ _ => trivial); (case aO => ((with_reducible repeat (first | apply Kd.R_alloc | apply Kd.R_drewN | apply Kd.R_drew)); exact HU.out)); (case aB => (repeat (first | (with_reducible first | exact HBn.out | apply below_alloc | apply pw_below_drewN | apply below_drew1) | exact HBn.out))); (case aS => exact below_size (by (repeat (first | (with_reducible first | exact HBn.out | apply below_alloc | apply pw_below_drewN | apply below_drew1) | exact HBn.out)))); (case aL => have := HL.out; omega); intro v5 w5 ho5 hb5 hg5 hat5; have HOl' := Aside0.mk (Kd.R_over (by ((with_reducible repeat (first | apply Kd.R_alloc | apply Kd.R_drewN | apply Kd.R_drew)); exact HOl.out)) (show Kd.R k49 49 _ w.heap.size (fun _ => True) _ xs by ((with_reducible repeat (first | apply Kd.R_alloc | apply Kd.R_drewN | apply Kd.R_drew)); exact HU.out)) (by decide) hg5); have HPn' := Aside0.mk (Kd.R_over (by ((with_reducible repeat (first | apply Kd.R_alloc | apply Kd.R_drewN | apply Kd.R_drew)); exact HPn.out)) (show Kd.R k49 49 _ w.heap.size (fun _ => True) _ xs by ((with_reducible repeat (first | apply Kd.R_alloc | apply Kd.R_drewN | apply Kd.R_drew)); exact HU.out)) (by decide) hg5); have HU' := Aside0.mk ho5; have HB' := Aside0.mk hb5; clear ho5 hb5 hg5 hat5)
            go_roundw
            case rel => exact ⟨i + 1, _, by go_num, by omega, HG2, HOl', HPn', ⟨by rw [HRe.out, HN2.out]; exact HU'.out⟩, HB'⟩
            case measure => simp [intOf]; omega
        · go_wp2
          go_ret
          have hg := HG.out
          rw [show l.length - i = 0 by omega] at hg
          simp only [outGo, Option.some.injEq] at hg
          subst hg
          exact ⟨_, rfl, HU.out, HBn.out⟩
end Go.Proofs.Ytmmjkebboonnkaa.P
