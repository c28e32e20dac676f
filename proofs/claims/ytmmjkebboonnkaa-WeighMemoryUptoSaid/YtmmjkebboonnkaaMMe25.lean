/- P.weighMemory_holds, part 26 of 28: the contracts of the Go functions that the law calls, its own walk, and its plain law, for every input that the statement speaks of. -/
import Derived.Test.YtmmjkebboonnkaaMMe12
import Derived.Test.YtmmjkebboonnkaaMMe18
import Derived.Test.YtmmjkebboonnkaaMMe19
import Derived.Test.YtmmjkebboonnkaaMMe20
import Derived.Test.YtmmjkebboonnkaaMMe2
import Derived.Test.YtmmjkebboonnkaaMMe21
import Derived.Test.YtmmjkebboonnkaaMMe3
import Derived.Test.YtmmjkebboonnkaaMMe15
import Derived.Test.YtmmjkebboonnkaaMMe13
import Derived.Test.YtmmjkebboonnkaaMMe4
set_option linter.unusedVariables false
set_option linter.unusedSimpArgs false
/- E15 -/
namespace Go.Proofs.Ytmmjkebboonnkaa.P
open Go.RowKit Go.Proofs.YtmmjkebboonnkaaW.PrintWords Go.Proofs.YtmmjkebboonnkaaW.PrintLast Go.Proofs.YtmmjkebboonnkaaW.PrintMore
structure WMem (k : Nat) (l0 : List S49) (l1 : List Int) (a2 : Int) (want : List Int) (f : Int) (reds : List Int) (rf : Int) (hv : List S49) (g : Int) (ov : List Int) (oe : Int) (so : Bool) (se : Int) (fi : Bool) (fie fp fe vm ve : Int) : Prop where
  fixed : larchlaw17_fixed.f k = some true
  rsums : larchref17_Sums.f k l0 = some (want, f)
  rreds : larchref17_Reds.f k l0 = some (reds, rf)
  rheavy : larchref17_Heavy.f k l0 l1 = some (hv, g)
  sums : weigh_Sums.f k l0 = some (want, f)
  preds : weigh_Reds.f k l0 = some (reds, rf)
  overs : weigh_Overs.f k l0 = some (ov, oe)
  heavy : weigh_Heavy.f k l0 l1 = some (hv, g)
  sound : weigh_Sound.f k l0 = some (so, se)
  fits : weigh_Fits.f k l0 = some (fi, fie)
  first : weigh_First.f k l0 a2 = some (fp, fe)
  si1 : larchref17_SameInts.f k want want = some true
  si2 : larchref17_SameInts.f k reds reds = some true
  sh : larchref17_Same.f k hv hv = some true
  st : larchref17_Same.f k l0 l0 = some true
  sw : larchref17_SameInts.f k l1 l1 = some true
  viol : weigh_Violations.f k (spW l0.length l0) = some (vm, ve)
  rviol : larchref17_Violations.f k (spW l0.length l0) = some (vm, ve)
  sn : larchref17_Same.f k (spW l0.length l0) (spW l0.length l0) = some true
  lens : want.length ≤ 1000000 ∧ reds.length ≤ 1000000 ∧ ov.length ≤ 1000000
theorem lit_node {W : World} {g : Nat} {a0 a1 a2 a3 a4 a5 : Int} (h : W.heap[g]? = some (.cells #[.int .i64 a0, .int .i64 a1, .int .i64 a2, .int .i64 a3, .int .i64 a4, .int .i64 a5] 49 (0, 0))) : Kd.C k49 W (some ⟨g, 0, none⟩) 1 [⟨a0, a1, a2, a3, a4, a5⟩] := by
  refine ⟨rfl, by decide, fun _ => ⟨_, rfl, fun j p hj => ?_⟩⟩
  refine ⟨[.int .i64 p.f0, .int .i64 p.f1, .int .i64 p.f2, .int .i64 p.f3, .int .i64 p.f4, .int .i64 p.f5], rfl, k49_mk W p, fun i u hu => ?_⟩
  rw [add_plain, blk_cell h]
  match j, hj with
  | 0, hj => simp at hj; subst hj; match i, hu with
    | 0, hu => simpa using hu
    | 1, hu => simpa using hu
    | 2, hu => simpa using hu
    | 3, hu => simpa using hu
    | 4, hu => simpa using hu
    | 5, hu => simpa using hu
    | i + 6, hu => simp at hu
  | j + 1, hj => simp at hj
theorem lit_int {W : World} {g : Nat} {a0 : Int} (h : W.heap[g]? = some (.cells #[.int .i64 a0] 3 (0, 0))) : Kd.C (Kd.int .i64) W (some ⟨g, 0, none⟩) 1 [a0] := by
  refine ⟨rfl, by decide, fun _ => ⟨_, rfl, fun j p hj => ?_⟩⟩
  refine ⟨[.int .i64 p], rfl, int_mk W p, fun i u hu => ?_⟩
  rw [add_plain, blk_cell h]
  match j, hj with
  | 0, hj => simp at hj; subst hj; match i, hu with
    | 0, hu => simpa using hu
    | i + 1, hu => simp at hu
  | j + 1, hj => simp at hj
theorem info3W : (Try.prog.info? 3).map (fun i => (i.zero, i.size, i.bytes)) = some (some (.int .i64 0), 1, 8) := by kernel_rfl
theorem info23W : (Try.prog.info? 23).map (fun i => (i.zero, i.size, i.bytes)) = some (some (.slice none 0 0), 1, 24) := by kernel_rfl
theorem lit_sls {W : World} {g : Nat} (ss : List Sl) (hn : ss.length ≤ 1000) (h : W.heap[g]? = some (.cells (ss.map encSl).toArray 23 (0, 0))) : Kd.C kSl W (some ⟨g, 0, none⟩) ss.length ss := by
  refine ⟨rfl, by omega, fun _ => ⟨_, rfl, fun j p hj => ?_⟩⟩
  refine ⟨[encSl p], rfl, by first | exact rfl | exact ⟨rfl⟩ | simp [kSl, Kd.scalar], fun i u hu => ?_⟩
  match i, hu with
  | 0, hu =>
    simp at hu
    subst hu
    rw [add_plain, blk_cell h]
    simp [show kSl.sz = 1 from rfl, hj]
  | i + 1, hu => simp at hu
theorem copied_fW (l : List S49) (h : l.length < 2000000) : larchlaw17_copied.f l = some l := by
  unfold larchlaw17_copied.f
  show (if ([] : List S49).length + l.length < 2932031007402 then some ([] ++ l) else none) = some l
  rw [if_pos (by simp; omega), List.nil_append]
theorem lit_grown {W w1 : World} {row : Option Nat} {g : Nat} {o : Obj} (hg : W.grownBy w1 row) (h : W.heap[g]? = some o) (hne : some g ≠ row) : w1.heap[g]? = some o := (hg.block g (blk_lt h) hne).trans h
theorem size_ad (W : World) (o : Obj) : (W.alloc o).heap.size = W.heap.size + 1 := Array.size_push ..
theorem make0_all {P : Program} {α : Type} (d : Kd α) (t e : TypeId) (n : Nat)
    (ht : P.underlying t = some (.slice e)) (z : Value) (bytes : Nat) (hinfo : (P.info? e).map (fun i => (i.zero, i.size, i.bytes)) = some (some z, d.sz, bytes)) (hl : bytes * n ≤ 140737488355328 ∧ n ≤ 140737488355328) :
    ∃ o : Obj, ∀ W : World, (Instr.makeSlice t (.int .i64 0) (.int .i64 (n : Int))).run P W = .ok (.slice (some ⟨W.heap.size, 0, none⟩) 0 n) (W.alloc o) ∧ ∀ (base : Nat) (ok : Nat → Prop), base ≤ W.heap.size → ok W.heap.size → d.R e (W.alloc o) base ok (.slice (some ⟨W.heap.size, 0, none⟩) 0 n) [] := by
  obtain ⟨i0, hi, hzz⟩ := Option.map_eq_some_iff.1 hinfo
  simp only [Prod.mk.injEq] at hzz
  obtain ⟨hz0, hz1, hz2⟩ := hzz
  refine ⟨.cells (madeCells z.cells (n * i0.size)) e, fun W => ⟨?_, fun base ok hb hf => ⟨fun k hk => ?_, [], ?_, Reps.none _ _⟩⟩⟩
  · have hr := run_make (P := P) W t e i0 z ht hi hz0 .i64 .i64 0 (n : Int) (Int.le_refl _) (by omega) (by
      have h3 : ((i0.bytes * n : Nat) : Int) ≤ 281474976710656 := by rw [hz2]; omega
      rwa [Int.natCast_mul] at h3) (by omega)
    simpa using hr
  · simp [Value.ownBlock] at hk
    subst hk
    exact hf
  · rw [← hz1]
    exact World.ownsRow_made W _ n hb (by unfold maxLen; omega) (size_madeCells _ _)
set_option maxHeartbeats 100000000 in
set_option maxRecDepth 100000 in
theorem larchlaw17_WeighMemory_calls (k : Nat) (A0 A1 : Option Addr) (c0 c1 : Nat) (l0 : List S49) (l1 : List Int) (a2 a3 : Int) (want : List Int) (f : Int) (reds : List Int) (rf : Int) (hv : List S49) (g : Int) (ov : List Int) (oe : Int) (so : Bool) (se : Int) (fi : Bool) (fie fp fe vm ve : Int) (w : World)
    (hr0 : Kd.C k49 w A0 l0.length l0) (h0 : l0.length ≤ c0) (hr1 : Kd.C (Kd.int .i64) w A1 l1.length l1) (h1 : l1.length ≤ c1) (hl0 : l0.length ≤ 1048576) (hl1 : l1.length ≤ 1048576)
    (h : WMem k l0 l1 a2 want f reds rf hv g ov oe so se fi fie fp fe vm ve) :
    Calls Try.prog 5 #[.agg #[.slice A0 l0.length c0, .slice A1 l1.length c1, .int .i64 a2, .int .i64 a3]] w fun e w' => e = .returned (.bool true) ∧ Below w.heap.size w w' := by
  have hu49 := Try.underlying49
  have hu25 := Try.underlying25
  have HF := Aside0.mk h
  have HT := Aside0.mk hr0
  have HTC := Aside0.mk h0
  have HW := Aside0.mk hr1
  have HWC := Aside0.mk h1
  have HLEN : Aside0 (l0.length ≤ 1048576 ∧ l1.length ≤ 1048576) := ⟨hl0, hl1⟩
  clear h hr0 h0 hr1 h1 hl0 hl1
  obtain ⟨Wa, hWa⟩ : ∃ Wa, Wa = w.alloc (.cells #[.slice A0 l0.length c0, .slice A1 l1.length c1, .int .i64 a2, .int .i64 a3] 25) := ⟨_, rfl⟩
  have HCA : Aside0 (Cy w Wa (boxW A0 A1 l0.length l1.length c0 c1 a2 a3)) := ⟨⟨by rw [hWa]; exact blk_new w _, by rw [hWa]; exact below_alloc (Below.refl _ _) _⟩⟩
  have HWA := Aside0.mk hWa
  clear hWa
  go_enter Try.func5, Try.ntmps5
  go_wp2_with (first
    | (go_at_call 8; rw [← HWA.out]; (with_reducible refine (larchlaw17_fixed.calls k true Wa HF.out.fixed).mono ?_); rintro e_ W3 ⟨rfl, hb⟩; have C := Aside0.mk (HCA.out.below hb); clear hb HCA HWA))
  obtain ⟨om, hom⟩ := make0_all (P := Try.prog) k49 22 49 (l0.length + 1) Try.underlying22 (.agg #[(.int .i64 0), (.int .i64 0), (.int .i64 0), (.int .i64 0), (.int .i64 0), (.int .i64 0)]) 48 info49 (by have := HLEN.out; omega)
  have hmk : ∀ W : World, (Instr.makeSlice 22 (.int .i64 0) (.int .i64 ((l0.length : Int) + 1))).run Try.prog W = .ok (.slice (some ⟨W.heap.size, 0, none⟩) 0 (l0.length + 1)) (W.alloc om) := fun W => (hom W).1
  have RM := Aside0.mk (fun W => (hom W).2)
  clear hom
  have hw4 : IntKind.i64.wrap ((l0.length : Int) + 1) = (l0.length : Int) + 1 := IntWalk.i64_in _ (by have := HLEN.out; omega)
  obtain ⟨tx, hmx⟩ : ∃ tx, tx = l0 ++ [⟨77, 0, 0, 0, 0, 0⟩] := ⟨_, rfl⟩
  have HXtx := Aside0.mk hmx
  clear hmx
  rename_i KK hKK
  refine wp_named fun F hF => ?_
  obtain ⟨Q0, hQ0⟩ : ∃ Q0 : Exit → Act → World → Prop, Q0 = (fun (e : Exit) (a' : Act) (W : World) => e = .normal ∧ ∃ (Atx : Option Addr) (ctx : Nat) (u35 u36 u37 u38 u39 u40 u41 u42 u43 u44 u45 : Value), a' = puts F [(3, .slice Atx tx.length ctx), (35, u35), (36, u36), (37, u37), (38, u38), (39, u39), (40, u40), (41, u41), (42, u42), (43, u43), (44, u44), (45, u45)] ∧ Cy w W (boxW A0 A1 l0.length l1.length c0 c1 a2 a3) ∧ Below W3.heap.size W3 W ∧ Kd.R k49 49 W w.heap.size (fun _ => True) (.slice Atx tx.length ctx) tx) := ⟨_, rfl⟩
  have HQ0 := Aside0.mk hQ0
  clear hQ0
  refine Code.wp_mono (Q := Q0) ?tail3 ?walk3
  case walk3 =>
    subst hF
    clear hKK
    go_region_held3 (fun W' => W'.cell? ⟨w.heap.size, 0, none⟩ = some (.slice A0 l0.length c0)) (first | (with_reducible exact boxm0 C.out.box) | (with_reducible exact boxm0 C.out.drew.box) | (with_reducible exact boxm0 (C.out.alloc _).drew.box) | (with_reducible exact boxm0 (C.out.drew.alloc _).box) | (with_reducible exact boxm0 ((C.out.drew.alloc _).alloc _).box) | (with_reducible exact boxm0 ((C.out.alloc _).alloc _).drew.box) | (with_reducible exact boxm0 CA.out.box) | (with_reducible exact boxm0 (CA.out.alloc _).box) | (with_reducible exact boxm0 CB.out.box)) (first
      | (refine Kd.R_append_rows_step k49 (w0 := W3) W3.heap.size (by rfl) (.tmp 39) (.tmp 41) 22 49 (.agg #[(.int .i64 0), (.int .i64 0), (.int .i64 0), (.int .i64 0), (.int .i64 0), (.int .i64 0)]) 48 rfl Try.underlying22 info49 rfl (by decide) (by omega) _ [] l0 _ _ _ (fun _ => True) (fun _ => False) rfl rfl ?aO (Rr := fun x cs => k49.K w x cs) ?aR (fun _ _ h => h) (fun _ h => h.elim) (fun _ _ => trivial) ?aB ?aS ?aL ?_; (case aL => have := HLEN.out; simp; omega); (case aB => first | (with_reducible exact below_drew1 (below_alloc (Below.refl _ _) _)) | (with_reducible exact below_drew1 (below_alloc (below_alloc (Below.refl _ _) _) _))); (case aS => first | (with_reducible exact (below_drew1 (below_alloc (Below.refl _ _) _)).size) | (with_reducible exact (below_drew1 (below_alloc (below_alloc (Below.refl _ _) _) _)).size)); (case aR => first | exact Kd.C_below HT.out (below_step C.out.bel (below_drew1 (below_alloc (Below.refl _ _) _))) | exact Kd.C_below HT.out (below_step C.out.bel (below_drew1 (below_alloc (below_alloc (Below.refl _ _) _) _)))); (case aO => first | exact Kd.R_drew (RM.out W3 _ _ (Nat.le_refl _) trivial) | exact Kd.R_drew (Kd.R_alloc (RM.out W3 _ _ (Nat.le_refl _) trivial) _) | (have h_ := RM.out (W3.alloc (.cells #[.int .i64 77, .int .i64 0, .int .i64 0, .int .i64 0, .int .i64 0, .int .i64 0] 49)) W3.heap.size (fun _ => True) (below_alloc (Below.refl _ _) _).size trivial; rw [size_ad] at h_; exact Kd.R_drew h_)); intro v1 wA ho hb hg hat; have CA := Aside0.mk (C.out.below hb); rw [List.nil_append] at ho; obtain ⟨A5, c5, rfl⟩ := Kd.R_slice ho; have RA := Aside0.mk ho; have BA := Aside0.mk hb; (first | (have T : Aside0 (wA.heap[W3.heap.size + 1]? = some (.cells #[.int .i64 77, .int .i64 0, .int .i64 0, .int .i64 0, .int .i64 0, .int .i64 0] 49 (0, 0))) := ⟨by rw [← size_ad W3 om]; refine lit_grown hg (by with_reducible exact blk_drew (blk_new (W3.alloc om) _)) ?_; intro he; have h2 : some (W3.alloc om).heap.size = some W3.drew.heap.size := he; rw [size_ad] at h2; injection h2 with h2; exact absurd h2 (Nat.succ_ne_self _)⟩) | (have T : Aside0 (wA.heap[W3.heap.size]? = some (.cells #[.int .i64 77, .int .i64 0, .int .i64 0, .int .i64 0, .int .i64 0, .int .i64 0] 49 (0, 0))) := ⟨by refine lit_grown hg (by with_reducible exact blk_drew (blk_alloc (blk_new W3 _) om)) ?_; intro he; have h2 : some W3.heap.size = some (W3.heap.size + 1) := he; injection h2 with h2; exact absurd h2.symm (Nat.succ_ne_self _)⟩) | (have T : Aside0 True := ⟨trivial⟩)); clear ho hb hg hat)
      | (refine Kd.R_append_rows_step k49 (w0 := W3) W3.heap.size (by rfl) (.tmp 42) (.tmp 44) 22 49 (.agg #[(.int .i64 0), (.int .i64 0), (.int .i64 0), (.int .i64 0), (.int .i64 0), (.int .i64 0)]) 48 rfl Try.underlying22 info49 rfl (by decide) (by omega) _ l0 [⟨77, 0, 0, 0, 0, 0⟩] _ _ _ (fun _ => True) (fun _ => False) rfl rfl ?aO (Rr := fun x cs => k49.K w x cs) ?aR (fun _ _ h => h) (fun _ h => h.elim) (fun _ _ => trivial) ?aB ?aS ?aL ?_; (case aL => have := HLEN.out; omega); (case aB => first | exact BA.out | exact below_alloc BA.out _); (case aS => first | exact BA.out.size | exact (below_alloc BA.out _).size); (case aR => first | exact lit_node T.out | exact lit_node (blk_new wA _)); (case aO => first | exact RA.out | exact Kd.R_alloc RA.out _); intro v2 wB ho hb hg hat; have CB := Aside0.mk (C.out.below hb); have BB := Aside0.mk hb; rw [← HXtx.out] at ho; obtain ⟨A6, c6, rfl⟩ := Kd.R_slice ho; have RB := Aside0.mk (Kd.R_lower ho C.out.bel.size); clear ho hb hg hat))
    all_goals rw [HQ0.out]
    all_goals refine ⟨rfl, A6, c6, ?_⟩
    · (repeat apply Exists.intro)
      refine ⟨by (try simp only [puts, List.foldl, Act.put, List.setIfInBounds_toArray, List.set_cons_zero, List.set_cons_succ]); rfl, ?_⟩
      exact ⟨CB.out, BB.out, RB.out⟩
    · (repeat apply Exists.intro)
      refine ⟨by (try simp only [puts, List.foldl, Act.put, List.setIfInBounds_toArray, List.set_cons_zero, List.set_cons_succ]); rfl, ?_⟩
      exact ⟨CB.out, BB.out, RB.out⟩
    · (repeat apply Exists.intro)
      refine ⟨by (try simp only [puts, List.foldl, Act.put, List.setIfInBounds_toArray, List.set_cons_zero, List.set_cons_succ]); rfl, ?_⟩
      exact ⟨CB.out, BB.out, RB.out⟩
  rw [HQ0.out]
  rintro e_ a_ W4 ⟨rfl, Atx, ctx, u35, u36, u37, u38, u39, u40, u41, u42, u43, u44, u45, rfl, hC, hB, hRtx⟩
  clear C HQ0
  have C := Aside0.mk hC
  have Rtx := Aside0.mk hRtx
  simp only [Exit.then]
  refine hKK _ _ ?_
  clear hKK hC hB hRtx
  subst hF
  simp only [puts, List.foldl, Act.put, List.setIfInBounds_toArray, List.set_cons_zero, List.set_cons_succ]
  clear hmk RM hw4
  obtain ⟨y0⟩ : Aside0 _ := ⟨boxm0 C.out.box⟩
  have hlx : l0.length ≤ tx.length := by rw [HXtx.out]; simp
  have hcx : tx.length ≤ ctx := (Kd.R_reads' Rtx.out).2.1
  have hlm := HLEN.out.1
  go_wp2
  obtain ⟨om, hom⟩ := make0_all (P := Try.prog) (Kd.int .i64) 23 3 (l1.length + 1) Try.underlying23 (.int .i64 0) 8 info3W (by have := HLEN.out; omega)
  have hmk : ∀ W : World, (Instr.makeSlice 23 (.int .i64 0) (.int .i64 ((l1.length : Int) + 1))).run Try.prog W = .ok (.slice (some ⟨W.heap.size, 0, none⟩) 0 (l1.length + 1)) (W.alloc om) := fun W => (hom W).1
  have RM := Aside0.mk (fun W => (hom W).2)
  clear hom
  have hw4 : IntKind.i64.wrap ((l1.length : Int) + 1) = (l1.length : Int) + 1 := IntWalk.i64_in _ (by have := HLEN.out; omega)
  obtain ⟨wx, hmx⟩ : ∃ wx, wx = l1 ++ [77] := ⟨_, rfl⟩
  have HXwx := Aside0.mk hmx
  clear hmx
  rename_i KK hKK
  refine wp_named fun F hF => ?_
  obtain ⟨Q0, hQ0⟩ : ∃ Q0 : Exit → Act → World → Prop, Q0 = (fun (e : Exit) (a' : Act) (W : World) => e = .normal ∧ ∃ (Awx : Option Addr) (cwx : Nat) (u51 u52 u53 u54 u55 u56 u57 u58 u59 u60 : Value), a' = puts F [(5, .slice Awx wx.length cwx), (51, u51), (52, u52), (53, u53), (54, u54), (55, u55), (56, u56), (57, u57), (58, u58), (59, u59), (60, u60)] ∧ Cy w W (boxW A0 A1 l0.length l1.length c0 c1 a2 a3) ∧ Below W4.heap.size W4 W ∧ Kd.R (Kd.int .i64) 3 W w.heap.size (fun _ => True) (.slice Awx wx.length cwx) wx) := ⟨_, rfl⟩
  have HQ0 := Aside0.mk hQ0
  clear hQ0
  refine Code.wp_mono (Q := Q0) ?tail5 ?walk5
  case walk5 =>
    subst hF
    clear hKK
    go_region_held3 (fun W' => W'.cell? ⟨w.heap.size, 1, none⟩ = some (.slice A1 l1.length c1)) (first | (with_reducible exact boxm1 C.out.box) | (with_reducible exact boxm1 C.out.drew.box) | (with_reducible exact boxm1 (C.out.alloc _).drew.box) | (with_reducible exact boxm1 (C.out.drew.alloc _).box) | (with_reducible exact boxm1 ((C.out.drew.alloc _).alloc _).box) | (with_reducible exact boxm1 ((C.out.alloc _).alloc _).drew.box) | (with_reducible exact boxm1 CA.out.box) | (with_reducible exact boxm1 (CA.out.alloc _).box) | (with_reducible exact boxm1 CB.out.box)) (first
      | (refine Kd.R_append_rows_step (Kd.int .i64) (w0 := W4) W4.heap.size (by rfl) (.tmp 55) (.tmp 57) 23 3 (.int .i64 0) 8 rfl Try.underlying23 info3W rfl (by decide) (by omega) _ [] l1 _ _ _ (fun _ => True) (fun _ => False) rfl rfl ?aO (Rr := fun x cs => (Kd.int .i64).K w x cs) ?aR (fun _ _ h => h) (fun _ h => h.elim) (fun _ _ => trivial) ?aB ?aS ?aL ?_; (case aL => have := HLEN.out; simp; omega); (case aB => first | (with_reducible exact below_drew1 (below_alloc (Below.refl _ _) _)) | (with_reducible exact below_drew1 (below_alloc (below_alloc (Below.refl _ _) _) _))); (case aS => first | (with_reducible exact (below_drew1 (below_alloc (Below.refl _ _) _)).size) | (with_reducible exact (below_drew1 (below_alloc (below_alloc (Below.refl _ _) _) _)).size)); (case aR => first | exact Kd.C_below HW.out (below_step C.out.bel (below_drew1 (below_alloc (Below.refl _ _) _))) | exact Kd.C_below HW.out (below_step C.out.bel (below_drew1 (below_alloc (below_alloc (Below.refl _ _) _) _)))); (case aO => first | exact Kd.R_drew (RM.out W4 _ _ (Nat.le_refl _) trivial) | exact Kd.R_drew (Kd.R_alloc (RM.out W4 _ _ (Nat.le_refl _) trivial) _) | (have h_ := RM.out (W4.alloc (.cells #[.int .i64 77] 3)) W4.heap.size (fun _ => True) (below_alloc (Below.refl _ _) _).size trivial; rw [size_ad] at h_; exact Kd.R_drew h_)); intro v1 wA ho hb hg hat; have CA := Aside0.mk (C.out.below hb); rw [List.nil_append] at ho; obtain ⟨A5, c5, rfl⟩ := Kd.R_slice ho; have RA := Aside0.mk ho; have BA := Aside0.mk hb; (first | (have T : Aside0 (wA.heap[W4.heap.size + 1]? = some (.cells #[.int .i64 77] 3 (0, 0))) := ⟨by rw [← size_ad W4 om]; refine lit_grown hg (by with_reducible exact blk_drew (blk_new (W4.alloc om) _)) ?_; intro he; have h2 : some (W4.alloc om).heap.size = some W4.drew.heap.size := he; rw [size_ad] at h2; injection h2 with h2; exact absurd h2 (Nat.succ_ne_self _)⟩) | (have T : Aside0 (wA.heap[W4.heap.size]? = some (.cells #[.int .i64 77] 3 (0, 0))) := ⟨by refine lit_grown hg (by with_reducible exact blk_drew (blk_alloc (blk_new W4 _) om)) ?_; intro he; have h2 : some W4.heap.size = some (W4.heap.size + 1) := he; injection h2 with h2; exact absurd h2.symm (Nat.succ_ne_self _)⟩) | (have T : Aside0 True := ⟨trivial⟩)); clear ho hb hg hat)
      | (refine Kd.R_append_rows_step (Kd.int .i64) (w0 := W4) W4.heap.size (by rfl) (.tmp 58) (.tmp 59) 23 3 (.int .i64 0) 8 rfl Try.underlying23 info3W rfl (by decide) (by omega) _ l1 [77] _ _ _ (fun _ => True) (fun _ => False) rfl rfl ?aO (Rr := fun x cs => (Kd.int .i64).K w x cs) ?aR (fun _ _ h => h) (fun _ h => h.elim) (fun _ _ => trivial) ?aB ?aS ?aL ?_; (case aL => have := HLEN.out; omega); (case aB => first | exact BA.out | exact below_alloc BA.out _); (case aS => first | exact BA.out.size | exact (below_alloc BA.out _).size); (case aR => first | exact lit_int T.out | exact lit_int (blk_new wA _)); (case aO => first | exact RA.out | exact Kd.R_alloc RA.out _); intro v2 wB ho hb hg hat; have CB := Aside0.mk (C.out.below hb); have BB := Aside0.mk hb; rw [← HXwx.out] at ho; obtain ⟨A6, c6, rfl⟩ := Kd.R_slice ho; have RB := Aside0.mk (Kd.R_lower ho C.out.bel.size); clear ho hb hg hat))
    all_goals rw [HQ0.out]
    all_goals refine ⟨rfl, A6, c6, ?_⟩
    · (repeat apply Exists.intro)
      refine ⟨by (try simp only [puts, List.foldl, Act.put, List.setIfInBounds_toArray, List.set_cons_zero, List.set_cons_succ]); rfl, ?_⟩
      exact ⟨CB.out, BB.out, RB.out⟩
    · (repeat apply Exists.intro)
      refine ⟨by (try simp only [puts, List.foldl, Act.put, List.setIfInBounds_toArray, List.set_cons_zero, List.set_cons_succ]); rfl, ?_⟩
      exact ⟨CB.out, BB.out, RB.out⟩
    · (repeat apply Exists.intro)
      refine ⟨by (try simp only [puts, List.foldl, Act.put, List.setIfInBounds_toArray, List.set_cons_zero, List.set_cons_succ]); rfl, ?_⟩
      exact ⟨CB.out, BB.out, RB.out⟩
  rw [HQ0.out]
  rintro e_ a_ W6 ⟨rfl, Awx, cwx, u51, u52, u53, u54, u55, u56, u57, u58, u59, u60, rfl, hC, hB, hRwx⟩
  clear C HQ0
  have C := Aside0.mk hC
  have Rtxn := Aside0.mk (Kd.R_below Rtx.out hB)
  clear Rtx
  have Rtx := Rtxn
  clear Rtxn
  have Rwx := Aside0.mk hRwx
  simp only [Exit.then]
  refine hKK _ _ ?_
  clear hKK hC hB hRwx
  subst hF
  simp only [puts, List.foldl, Act.put, List.setIfInBounds_toArray, List.set_cons_zero, List.set_cons_succ]
  clear hmk RM hw4
  obtain ⟨y0⟩ : Aside0 _ := ⟨boxm0 C.out.box⟩
  go_wp2_with (first
    | (go_at_call 29; (with_reducible refine (larchref17_Sums.calls k A0 c0 l0 want f _ (Kd.C_below HT.out C.out.bel) HTC.out HF.out.rsums).mono ?_); rintro e_ w6 ⟨v, rfl, ho, hb⟩; obtain ⟨Aw, cw, rfl⟩ := Kd.R_slice ho; have C6 := Aside0.mk (C.out.below hb); have Rtxn := Aside0.mk (Kd.R_below Rtx.out hb); clear Rtx; have Rtx := Rtxn; clear Rtxn; have Rwxn := Aside0.mk (Kd.R_below Rwx.out hb); clear Rwx; have Rwx := Rwxn; clear Rwxn; have W0 := Aside0.mk (Kd.R_reads' ho).2.2; have HWL := Aside0.mk (Kd.R_reads' ho).2.1; clear ho hb y0; obtain ⟨z0⟩ : Aside0 _ := ⟨boxm0 C6.out.box⟩)
    | (go_at_call 11; (with_reducible refine (larchref17_Reds.calls k A0 c0 l0 reds rf w6 (Kd.C_below HT.out C6.out.bel) HTC.out HF.out.rreds).mono ?_); rintro e_ w7 ⟨v, rfl, ho, hb⟩; obtain ⟨Ar, cr, rfl⟩ := Kd.R_slice ho; have C7 := Aside0.mk (C6.out.below hb); have Rtxn := Aside0.mk (Kd.R_below Rtx.out hb); clear Rtx; have Rtx := Rtxn; clear Rtxn; have Rwxn := Aside0.mk (Kd.R_below Rwx.out hb); clear Rwx; have Rwx := Rwxn; clear Rwxn; have W0n := Aside0.mk (Kd.C_below W0.out hb); clear W0; have W0 := W0n; clear W0n; have R0 := Aside0.mk (Kd.R_reads' ho).2.2; have HRL := Aside0.mk (Kd.R_reads' ho).2.1; clear ho hb z0; obtain ⟨z0⟩ : Aside0 _ := ⟨boxm0 C7.out.box⟩; obtain ⟨z1⟩ : Aside0 _ := ⟨boxm1 C7.out.box⟩)
    | (go_at_call 23; (with_reducible refine (larchref17_Heavy.calls k A0 c0 l0 A1 c1 l1 hv g w7 (Kd.C_below HT.out C7.out.bel) HTC.out (Kd.C_below HW.out C7.out.bel) HWC.out HF.out.rheavy).mono ?_); rintro e_ w8 ⟨v, rfl, ho, hb⟩; obtain ⟨Ah, ch, rfl⟩ := Kd.R_slice ho; have C8 := Aside0.mk (C7.out.below hb); have Rtxn := Aside0.mk (Kd.R_below Rtx.out hb); clear Rtx; have Rtx := Rtxn; clear Rtxn; have Rwxn := Aside0.mk (Kd.R_below Rwx.out hb); clear Rwx; have Rwx := Rwxn; clear Rwxn; have W0n := Aside0.mk (Kd.C_below W0.out hb); clear W0; have W0 := W0n; clear W0n; have R0n := Aside0.mk (Kd.C_below R0.out hb); clear R0; have R0 := R0n; clear R0n; have H0 := Aside0.mk (Kd.R_reads' ho).2.2; have HHL := Aside0.mk (Kd.R_reads' ho).2.1; clear ho hb z0 z1))
  have S8 : Aside0 (St w w8 (boxW A0 A1 l0.length l1.length c0 c1 a2 a3) Atx ctx tx Awx cwx wx Aw want Ar reds Ah hv) := ⟨⟨C8.out, Rtx.out, Rwx.out, W0.out, R0.out, H0.out⟩⟩
  clear C8 Rtx Rwx W0 R0 H0
  go_loopw [12, 13] (fun v12 v13 W => ∃ (j : Nat) (ls : List (Sl × List Int)), v13 = .int .i64 (j : Int) ∧ j ≤ 2 ∧ ls.length = 3 * j ∧ Aside0 (Lp w8 W W.heap.size ls v12)) (fun v12 v13 _ => 2 - (intOf v13).toNat)
  case atStart => exact ⟨0, [], rfl, by decide, by simp, ⟨⟨Below.refl _ _, Fam.nil _ _ _, Kd.R_nil _ _ _ _ _, by simp⟩⟩⟩
  case round =>
    obtain ⟨j, ls, rfl, hj, hls, L⟩ := hrel
    by_cases hlt : j < 2
    · have HWr := Aside0.mk L.out.bel.size
      have S := Aside0.mk (S8.out.below L.out.bel)
      have hb1 : (0 : Int) ≤ (l1.length : Int) := by omega
      have hlx1 : l1.length ≤ wx.length := by rw [HXwx.out]; simp
      have hcx1 : wx.length ≤ cwx := (Kd.R_reads' S.out.wx).2.1
      go_wp2_with (first
        | (go_at_call 25; (with_reducible refine (weigh_Sums.calls k Atx ctx l0 want f wr (tx_C S.out.tx HXtx.out).1 (tx_C S.out.tx HXtx.out).2 HF.out.sums).mono ?_); rintro e_ x1 ⟨v, rfl, hR, hb⟩; obtain ⟨Aa, ca, rfl⟩ := Kd.R_slice hR; have U := Aside0.mk (Fam.one (v := ⟨Aa, want.length, ca⟩) hR); have SZ := Aside0.mk hb.size; have Sn := Aside0.mk (S.out.below hb); clear S; have S := Sn; clear Sn; have Ln := Aside0.mk (L.out.below hb); clear L; have L := Ln; clear Ln; clear hR hb)
        | (go_at_call 9; (with_reducible refine (weigh_Reds.calls k Atx ctx l0 reds rf x1 (tx_C S.out.tx HXtx.out).1 (tx_C S.out.tx HXtx.out).2 HF.out.preds).mono ?_); rintro e_ x2 ⟨v, rfl, hR, hb⟩; obtain ⟨Ab, cb, rfl⟩ := Kd.R_slice hR; have Un := Aside0.mk ((U.out.below hb).app (Fam.one (v := ⟨Ab, reds.length, cb⟩) hR) SZ.out hb.size); clear U; have U := Un; clear Un; have SZn := Aside0.mk (Nat.le_trans SZ.out hb.size); clear SZ; have SZ := SZn; clear SZn; have Sn := Aside0.mk (S.out.below hb); clear S; have S := Sn; clear Sn; have Ln := Aside0.mk (L.out.below hb); clear L; have L := Ln; clear Ln; clear hR hb)
        | (go_at_call 13; (with_reducible refine (weigh_Overs.calls k Atx ctx l0 ov oe x2 (tx_C S.out.tx HXtx.out).1 (tx_C S.out.tx HXtx.out).2 HF.out.overs).mono ?_); rintro e_ x3 ⟨v, rfl, hR, hb⟩; obtain ⟨Ac, cc, rfl⟩ := Kd.R_slice hR; have Un := Aside0.mk ((U.out.below hb).app (Fam.one (v := ⟨Ac, ov.length, cc⟩) hR) SZ.out hb.size); clear U; have U := Un; clear Un; have SZn := Aside0.mk (Nat.le_trans SZ.out hb.size); clear SZ; have SZ := SZn; clear SZn; have Sn := Aside0.mk (S.out.below hb); clear S; have S := Sn; clear Sn; have Ln := Aside0.mk (L.out.below hb); clear L; have L := Ln; clear Ln; clear hR hb; obtain ⟨y1⟩ : Aside0 _ := ⟨boxm1 S.out.cy.box⟩)
        | (go_at_call 21; (with_reducible refine (weigh_Heavy.calls k Atx ctx l0 Awx cwx l1 hv g x3 (tx_C S.out.tx HXtx.out).1 (tx_C S.out.tx HXtx.out).2 (wx_C S.out.wx HXwx.out).1 (wx_C S.out.wx HXwx.out).2 HF.out.heavy).mono ?_); rintro e_ x4 ⟨v, rfl, hR, hb⟩; obtain ⟨Ax, cx, rfl⟩ := Kd.R_slice hR; have HH := Aside0.mk hR; have SX : Aside0 (wr.heap.size ≤ x3.heap.size) := ⟨SZ.out⟩; have Un := Aside0.mk ((U.out.below hb).raise hb.size); clear U; have U := Un; clear Un; have SZn := Aside0.mk (Nat.le_trans SZ.out hb.size); clear SZ; have SZ := SZn; clear SZn; have Sn := Aside0.mk (S.out.below hb); clear S; have S := Sn; clear Sn; have Ln := Aside0.mk (L.out.below hb); clear L; have L := Ln; clear Ln; clear hR hb y1)
        | (go_at_call 30; (with_reducible refine (weigh_Sound.calls k Atx ctx l0 so se x4 (tx_C S.out.tx HXtx.out).1 (tx_C S.out.tx HXtx.out).2 HF.out.sound).mono ?_); rintro e_ x5 ⟨rfl, hb⟩; have Un := Aside0.mk ((U.out.below hb).raise hb.size); clear U; have U := Un; clear Un; have SZn := Aside0.mk (Nat.le_trans SZ.out hb.size); clear SZ; have SZ := SZn; clear SZn; have HHn := Aside0.mk (Kd.R_below HH.out hb); clear HH; have HH := HHn; clear HHn; have Sn := Aside0.mk (S.out.below hb); clear S; have S := Sn; clear Sn; have Ln := Aside0.mk (L.out.below hb); clear L; have L := Ln; clear Ln; clear hb)
        | (go_at_call 31; (with_reducible refine (weigh_Fits.calls k Atx ctx l0 fi fie x5 (tx_C S.out.tx HXtx.out).1 (tx_C S.out.tx HXtx.out).2 HF.out.fits).mono ?_); rintro e_ x6 ⟨rfl, hb⟩; have Un := Aside0.mk ((U.out.below hb).raise hb.size); clear U; have U := Un; clear Un; have SZn := Aside0.mk (Nat.le_trans SZ.out hb.size); clear SZ; have SZ := SZn; clear SZn; have HHn := Aside0.mk (Kd.R_below HH.out hb); clear HH; have HH := HHn; clear HHn; have Sn := Aside0.mk (S.out.below hb); clear S; have S := Sn; clear Sn; have Ln := Aside0.mk (L.out.below hb); clear L; have L := Ln; clear Ln; clear hb; obtain ⟨y2⟩ : Aside0 _ := ⟨boxm2 S.out.cy.box⟩)
        | (go_at_call 17; (with_reducible refine (weigh_First.calls k Atx ctx l0 a2 fp fe x6 (tx_C S.out.tx HXtx.out).1 (tx_C S.out.tx HXtx.out).2 HF.out.first).mono ?_); rintro e_ x7 ⟨rfl, hb⟩; have Un := Aside0.mk ((U.out.below hb).raise hb.size); clear U; have U := Un; clear Un; have SZn := Aside0.mk (Nat.le_trans SZ.out hb.size); clear SZ; have SZ := SZn; clear SZn; have HHn := Aside0.mk (Kd.R_below HH.out hb); clear HH; have HH := HHn; clear HHn; have Sn := Aside0.mk (S.out.below hb); clear S; have S := Sn; clear Sn; have Ln := Aside0.mk (L.out.below hb); clear L; have L := Ln; clear Ln; clear hb y2)
        | (go_at_call 12; (with_reducible refine (larchref17_SameInts.calls k Aa ca want Aw cw want true x7 (Kd.R_reads' (U.out.row (⟨Aa, want.length, ca⟩, want) (by simp))).2.2 (Kd.R_reads' (U.out.row (⟨Aa, want.length, ca⟩, want) (by simp))).2.1 S.out.w0 HWL.out HF.out.si1).mono ?_); rintro e_ x8 ⟨rfl, hd⟩; have hb := hd.below; clear hd; have Un := Aside0.mk ((U.out.below hb).raise hb.size); clear U; have U := Un; clear Un; have SZn := Aside0.mk (Nat.le_trans SZ.out hb.size); clear SZ; have SZ := SZn; clear SZn; have HHn := Aside0.mk (Kd.R_below HH.out hb); clear HH; have HH := HHn; clear HHn; have Sn := Aside0.mk (S.out.below hb); clear S; have S := Sn; clear Sn; have Ln := Aside0.mk (L.out.below hb); clear L; have L := Ln; clear Ln; clear hb)
        | (go_at_call 12; (with_reducible refine (larchref17_SameInts.calls k Ab cb reds Ar cr reds true x8 (Kd.R_reads' (U.out.row (⟨Ab, reds.length, cb⟩, reds) (by simp))).2.2 (Kd.R_reads' (U.out.row (⟨Ab, reds.length, cb⟩, reds) (by simp))).2.1 S.out.r0 HRL.out HF.out.si2).mono ?_); rintro e_ x9 ⟨rfl, hd⟩; have hb := hd.below; clear hd; have Un := Aside0.mk ((U.out.below hb).raise hb.size); clear U; have U := Un; clear Un; have SZn := Aside0.mk (Nat.le_trans SZ.out hb.size); clear SZ; have SZ := SZn; clear SZn; have HHn := Aside0.mk (Kd.R_below HH.out hb); clear HH; have HH := HHn; clear HHn; have Sn := Aside0.mk (S.out.below hb); clear S; have S := Sn; clear Sn; have Ln := Aside0.mk (L.out.below hb); clear L; have L := Ln; clear Ln; clear hb)
        | (go_at_call 24; (with_reducible refine (larchref17_Same.calls k Ax cx hv Ah ch hv true x9 (Kd.R_reads' HH.out).2.2 (Kd.R_reads' HH.out).2.1 S.out.h0 HHL.out HF.out.sh).mono ?_); rintro e_ x10 ⟨rfl, hd⟩; have hb := hd.below; clear hd; have Un := Aside0.mk ((U.out.below hb).raise hb.size); clear U; have U := Un; clear Un; have SZn := Aside0.mk (Nat.le_trans SZ.out hb.size); clear SZ; have SZ := SZn; clear SZn; have HHn := Aside0.mk (Kd.R_below HH.out hb); clear HH; have HH := HHn; clear HHn; have Sn := Aside0.mk (S.out.below hb); clear S; have S := Sn; clear Sn; have Ln := Aside0.mk (L.out.below hb); clear L; have L := Ln; clear Ln; clear hb)
        )
      obtain ⟨s1, hs1⟩ : ∃ s1, s1 = wr.heap.size := ⟨_, rfl⟩
      rw [← hs1] at U L SZ SX HWr
      obtain ⟨b0, hb0⟩ : ∃ b0, b0 = x3.heap.size := ⟨_, rfl⟩
      rw [← hb0] at HH SX
      obtain ⟨t1, ht1⟩ : ∃ t1, t1 = x10.heap.size := ⟨_, rfl⟩
      rw [← ht1] at U SZ
      have HS := Aside0.mk (show w8.heap.size ≤ s1 ∧ s1 ≤ t1 by have h1 := HWr.out; have h2 := SZ.out; omega)
      obtain ⟨us, hus⟩ : ∃ us : List (Sl × List Int), us = (([((⟨Aa, want.length, ca⟩ : Sl), want)] ++ [(⟨Ab, reds.length, cb⟩, reds)]) ++ [(⟨Ac, ov.length, cc⟩, ov)]) := ⟨_, rfl⟩
      rw [← hus] at U
      have HUS := Aside0.mk hus
      have H : Aside0 (Lh w8 x10 s1 s1 t1 b0 ls us u12 Ax hv.length cx) := ⟨⟨L.out.bel, L.out.fam, U.out, L.out.arr, ⟨hv, rfl, HH.out⟩, by rw [ht1]; exact Nat.le_refl _, by have h1 := HWr.out; have h2 := SX.out; omega⟩⟩
      have LN := Aside0.mk L.out.len
      clear L U HH S SX SZ HWr hs1 hb0 ht1 hus
      have hvm : hv.length ≤ 9223372036854775807 := S8.out.h0.2.1
      have hwn : IntKind.i64.wrap (-(j : Int)) = -(j : Int) := IntWalk.i64_in _ (by omega)
      go_loopw [22] (fun v22 W => ∃ (i : Nat), v22 = .int .i64 (i : Int) ∧ i ≤ hv.length ∧ Aside0 (Lh w8 W s1 s1 t1 b0 ls us u12 Ax hv.length cx)) (fun v22 _ => hv.length - (intOf v22).toNat)
      case atStart => exact ⟨0, rfl, Nat.zero_le _, H⟩
      case round =>
        clear H
        obtain ⟨i, rfl, hi, H⟩ := hrel
        by_cases hih : i < hv.length
        · obtain ⟨gx, hgx, ⟨q, y0, y1, y2, y3, y4, y5⟩, ⟨f0, f1, f2, f3, f4, f5⟩, Z2⟩ := H.out.write hih ⟨-(j : Int), 0, 0, 0, 0, 0⟩
          subst hgx
          have ZZ := Aside0.mk Z2
          have b1 : (0 : Int) ≤ (i : Int) := by omega
          have b2 : (i : Int) < (hv.length : Int) := by omega
          clear Z2 H
          go_wp2
          go_roundw
          case rel => exact ⟨i + 1, by go_num, by omega, ZZ⟩
          case measure => simp [intOf]; omega
        · obtain rfl : i = hv.length := by omega
          clear hih hi
          go_wp2_with (first
            | ((with_reducible refine gate_dst (N := 160) rfl ?_); refine Kd.event_run (v := .slice (some ⟨wr.heap.size, 0, none⟩) 3 3) (w1 := wr.alloc (.cells #[.slice Aa want.length ca, .slice Ab reds.length cb, .slice Ac ov.length cc] 23)) rfl ?hr ?_; (case hr => first | (go_simp; done) | (go_simp; rfl)))
            | ((with_reducible refine gate_builtin (b := .append) (xs := #[.tmp 156, .tmp 160]) rfl ?_); refine Kd.R_append_rows kSl (w0 := w8) w8.heap.size rfl (.tmp 156) (.tmp 160) 50 23 (.slice none 0 0) 24 rfl Try.underlying50 info23W rfl (by decide) (by omega) _ (ls.map Prod.fst) [⟨Aa, want.length, ca⟩, ⟨Ab, reds.length, cb⟩, ⟨Ac, ov.length, cc⟩] _ _ _ (fun _ => True) (fun _ => False) rfl rfl ?aO (Rr := fun x cs => kSl.K w x cs) ?aR (fun _ _ h => h) (fun _ h => h.elim) (fun _ _ => trivial) ?aB ?aS ?aL ?_; (case aO => exact Kd.R_alloc H.out.arr _); (case aR => exact lit_sls [⟨Aa, want.length, ca⟩, ⟨Ab, reds.length, cb⟩, ⟨Ac, ov.length, cc⟩] (by simp) (blk_new wr _)); (case aB => exact below_alloc H.out.bel _); (case aS => exact (below_alloc H.out.bel _).size); (case aL => simp; omega); intro v1 xB ho hb hg hat; have AR := Aside0.mk ho; have BB := Aside0.mk hb; have FA := Aside0.mk ((H.out.fam.below (below_alloc (Below.refl _ _) _)).grown (Kd.R_typed (Kd.R_alloc H.out.arr _)) hg); have FN := Aside0.mk ((H.out.new.below (below_alloc (Below.refl _ _) _)).grown (Kd.R_typed (Kd.R_alloc H.out.arr _)) hg); have HT2 := Aside0.mk (Nat.le_trans H.out.sz (Nat.le_trans (Nat.le_of_lt (Nat.lt_succ_self _)) (Nat.le_trans (Nat.le_of_eq (size_ad wr _).symm) hg.size))); clear ho hb hg hat H))
          go_roundw
          case rel =>
            refine ⟨j + 1, ls ++ us, by go_num, by omega, ?_, ⟨⟨BB.out, (FA.out.app FN.out HS.out.1 HS.out.2).raise HT2.out, ?_, ?_⟩⟩⟩
            · rw [HUS.out]; simp [hls]; omega
            · have h3 := AR.out
              rw [HUS.out]
              simpa using h3
            · intro p hp
              have hl := HF.out.lens
              rcases List.mem_append.1 hp with hp | hp
              · exact LN.out p hp
              · rw [HUS.out] at hp
                simp only [List.cons_append, List.nil_append, List.mem_cons, List.not_mem_nil, or_false] at hp
                rcases hp with rfl | rfl | rfl
                · exact hl.1
                · exact hl.2.1
                · exact hl.2.2
          case measure => simp [intOf]; omega
    · have hj2 : ¬ ((j : Int) < 2) := by omega
      go_wp2
      have hln : 0 < (ls.map Prod.fst).length := by rw [List.length_map]; omega
      obtain ⟨g12, c12, e12, -⟩ := Kd.R_form L.out.arr hln
      rw [List.length_map] at e12
      subst e12
      have hn12 : ls.length ≤ 6 := by omega
      clear hls hlt hj hj2
      obtain ⟨t2, ht2⟩ : ∃ t2, t2 = wr.heap.size := ⟨_, rfl⟩
      have Z : Aside0 (L2 w8 wr t2 ls (.slice (some ⟨g12, 0, none⟩) ls.length c12)) := ⟨by rw [ht2]; exact ⟨L.out.bel, ⟨L.out.bel.size, Nat.le_refl _⟩, L.out.fam, Kd.R_mono (Kd.R_bound L.out.arr) (fun k hk => hk.2.2.1)⟩⟩
      have LN := Aside0.mk L.out.len
      clear L ht2 hln
      go_loopw [23] (fun v23 W => ∃ (i : Nat) (lq : List (Sl × List Int)), v23 = .int .i64 (i : Int) ∧ i ≤ ls.length ∧ lq.length = ls.length ∧ Aside0 (L2 w8 W t2 lq (.slice (some ⟨g12, 0, none⟩) ls.length c12)) ∧ Aside0 ((∀ p ∈ lq, p.2.length ≤ 1000000) ∧ Pr lq i)) (fun v23 _ => ls.length - (intOf v23).toNat)
      case atStart => exact ⟨0, ls, rfl, Nat.zero_le _, rfl, Z, ⟨LN.out, Pr.zero _⟩⟩
      case round =>
        clear Z LN
        obtain ⟨i, lq, rfl, hi, hq, Z, P⟩ := hrel
        by_cases hil : i < ls.length
        · have b1 : (0 : Int) ≤ (i : Int) := by omega
          have b2 : (i : Int) < (ls.length : Int) := by omega
          obtain ⟨⟨As, ns, cs⟩, hsi⟩ : ∃ s, s = (lq[i]'(by omega)).1 := ⟨_, rfl⟩
          have hns : ns ≤ 1000000 := by
            have h1 : ns = (lq[i]'(by omega)).2.length := by
              have h := (Z.out.listC (i := i) (by omega)).1
              rw [← hsi] at h
              exact h
            have h2 := P.out.1 _ (List.getElem_mem (l := lq) (n := i) (by omega))
            omega
          have HI : Aside0 ((lq[i]?).map Prod.fst = some ⟨As, ns, cs⟩) := ⟨by rw [List.getElem?_eq_getElem (by omega), hsi]; rfl⟩
          clear hsi
          go_wp2
          go_loopw [24] (fun v24 W => ∃ (j : Nat) (lr : List (Sl × List Int)), v24 = .int .i64 (j : Int) ∧ j ≤ ns ∧ lr.length = ls.length ∧ Aside0 (L2 w8 W t2 lr (.slice (some ⟨g12, 0, none⟩) ls.length c12)) ∧ Aside0 ((∀ p ∈ lr, p.2.length ≤ 1000000) ∧ Pr lr i ∧ Pj lr i j ∧ (lr[i]?).map Prod.fst = some ⟨As, ns, cs⟩)) (fun v24 _ => ns - (intOf v24).toNat)
          case atStart => exact ⟨0, lq, rfl, Nat.zero_le _, hq, Z, ⟨P.out.1, P.out.2, Pj.zero _ _, HI.out⟩⟩
          case round =>
            clear Z P HI
            obtain ⟨j, lr, rfl, hj, hr, Z, P⟩ := hrel
            have hir : i < lr.length := by omega
            have hfst : lr[i].1 = ⟨As, ns, cs⟩ := by
              have h := P.out.2.2.2
              rw [List.getElem?_eq_getElem hir] at h
              simpa using h
            have x1 : wr.cell? ⟨g12, i, none⟩ = some (.slice As ns cs) := by
              have h := Z.out.at_ hir
              rw [hfst] at h
              exact h
            have hl2 : ns = lr[i].2.length := by
              have h := (Z.out.listC hir).1
              rw [hfst] at h
              exact h
            have HFS := Aside0.mk hfst
            have HL2 := Aside0.mk hl2
            clear hfst hl2
            by_cases hjn : j < ns
            · obtain ⟨g_, c_, h1, ⟨q0, y0⟩, f0, Z2⟩ := Z.out.write hir (j := j) (by have := HL2.out; omega) (200000 * (i : Int) + (j : Int))
              rw [HFS.out] at h1
              injection h1 with e1 e2 e3
              subst e1
              have ZZ := Aside0.mk Z2
              have b3 : (0 : Int) ≤ (j : Int) := by omega
              have b4 : (j : Int) < (ns : Int) := by omega
              have hw1 : IntKind.i64.wrap (200000 * (i : Int)) = 200000 * (i : Int) := IntWalk.i64_in _ (by omega)
              have hw2 : IntKind.i64.wrap (200000 * (i : Int) + (j : Int)) = 200000 * (i : Int) + (j : Int) := IntWalk.i64_in _ (by omega)
              clear Z Z2 e2 e3
              go_wp2
              go_roundw
              case rel =>
                refine ⟨j + 1, lr.set i (lr[i].1, lr[i].2.set j (200000 * (i : Int) + (j : Int))), by go_num, by omega, by simp [hr], ZZ, ⟨fun p hp => ?_, P.out.2.1.set _, P.out.2.2.1.set hir, ?_⟩⟩
                · rcases List.mem_or_eq_of_mem_set hp with hp | rfl
                  · exact P.out.1 p hp
                  · simp only [List.length_set]
                    exact P.out.1 _ (List.getElem_mem hir)
                · rw [List.getElem?_set_self hir]
                  simp [HFS.out]
              case measure => simp [intOf]; omega
            · obtain rfl : j = ns := by omega
              have PN := Aside0.mk (P.out.2.1.next P.out.2.2.1 (fun _ => Nat.le_of_eq HL2.out.symm))
              clear hjn
              go_wp2
              go_roundw
              case rel => exact ⟨i + 1, lr, by go_num, by omega, hr, Z, ⟨P.out.1, PN.out⟩⟩
              case measure => simp [intOf]; omega
        · obtain rfl : i = ls.length := by omega
          clear hil hi
          go_wp2
          have hlq := hq
          go_loopw [25] (fun v25 W => ∃ (i : Nat), v25 = .int .i64 (i : Int) ∧ i ≤ ls.length ∧ Aside0 (L2 w8 W t2 lq (.slice (some ⟨g12, 0, none⟩) ls.length c12))) (fun v25 _ => ls.length - (intOf v25).toNat)
          case atStart => exact ⟨0, rfl, Nat.zero_le _, Z⟩
          case round =>
            clear Z
            obtain ⟨i, rfl, hi, Z⟩ := hrel
            by_cases hil : i < ls.length
            · have b1 : (0 : Int) ≤ (i : Int) := by omega
              have b2 : (i : Int) < (ls.length : Int) := by omega
              have hiq : i < lq.length := by omega
              obtain ⟨⟨As, ns, cs⟩, hsi⟩ : ∃ s, s = lq[i].1 := ⟨_, rfl⟩
              have x1 : wr.cell? ⟨g12, i, none⟩ = some (.slice As ns cs) := by
                have h := Z.out.at_ hiq
                rw [← hsi] at h
                exact h
              have RI : Aside0 (Kd.R (Kd.int .i64) 3 wr w8.heap.size (fun k => k < t2) (.slice As ns cs) lq[i].2) := ⟨by
                have h := Z.out.fam.row _ (List.getElem_mem hiq)
                rw [← hsi] at h
                exact h⟩
              have hsm := P.out.1 _ (List.getElem_mem hiq)
              have HSI := Aside0.mk hsi
              clear hsi
              go_wp2_with (first
                | ((with_reducible refine gate_dst (N := 197) rfl ?_); refine Kd.event_run (v := .slice (some ⟨wr.heap.size, 0, none⟩) 2 2) (w1 := wr.alloc (.cells #[.int .i64 (-1), .int .i64 (-2)] 3)) rfl ?hr ?_; (case hr => first | (go_simp; done) | (go_simp; rfl)))
                | ((with_reducible refine gate_builtin (b := .append) (xs := #[.tmp 196, .tmp 197]) rfl ?_); refine append_spill (Kd.int .i64) _ rfl (.tmp 196) (.tmp 197) 23 rfl 3 (.int .i64 0) 8 Try.underlying23 info3W rfl (by decide) (base := w8.heap.size) (ok := fun k => k < t2) (xs := lq[i].2) rfl ?aR ⟨wr.heap.size, 0, none⟩ 2 2 [.int .i64 (-1), .int .i64 (-2)] rfl (by rfl) ?aC ?a1 (by decide) ?ab1 ?ab2 ?aS ?_; (case aR => exact Kd.R_alloc RI.out _); (case aC => intro j u hj; rw [add_plain, blk_cell (blk_new _ _)]; simpa using hj); (case a1 => first | (simp [Value.oneCell']; done) | decide); (case ab1 => unfold maxLen; omega); (case ab2 => omega); (case aS => exact (below_alloc Z.out.bel _).size); intro v' a1 hR hc; have ZZ := Aside0.mk ((Z.out.below (below_alloc (Below.refl _ _) _)).spill hiq (by rw [← HSI.out]; exact hc) (by rw [← HSI.out]; exact hR)); clear hR hc))
              go_roundw
              case rel => exact ⟨i + 1, by go_num, by omega, ZZ⟩
              case measure => simp [intOf]; omega
            · obtain rfl : i = ls.length := by omega
              clear hil hi
              go_wp2
              go_loopw [26] (fun v26 W => ∃ (i : Nat), v26 = .int .i64 (i : Int) ∧ i ≤ ls.length ∧ Aside0 (L2 w8 W t2 lq (.slice (some ⟨g12, 0, none⟩) ls.length c12))) (fun v26 _ => ls.length - (intOf v26).toNat)
              case atStart => exact ⟨0, rfl, Nat.zero_le _, Z⟩
              case round =>
                clear Z
                obtain ⟨i, rfl, hi, Z⟩ := hrel
                by_cases hil : i < ls.length
                · have b1 : (0 : Int) ≤ (i : Int) := by omega
                  have b2 : (i : Int) < (ls.length : Int) := by omega
                  have hiq : i < lq.length := by omega
                  go_wp2
                  go_loopw [27] (fun v27 W => ∃ (j : Nat), v27 = .int .i64 (j : Int) ∧ j ≤ lq[i].2.length ∧ Aside0 (L2 w8 W t2 lq (.slice (some ⟨g12, 0, none⟩) ls.length c12))) (fun v27 _ => lq[i].2.length - (intOf v27).toNat)
                  case atStart => exact ⟨0, rfl, Nat.zero_le _, Z⟩
                  case round =>
                    clear Z
                    obtain ⟨j, rfl, hj, Z⟩ := hrel
                    have hsm := P.out.1 _ (List.getElem_mem hiq)
                    have hn := (Z.out.listC hiq).1
                    obtain ⟨⟨As, ns, cs⟩, hsi⟩ : ∃ s, s = lq[i].1 := ⟨_, rfl⟩
                    rw [← hsi] at hn
                    obtain rfl : ns = lq[i].2.length := hn
                    have x1 : wr.cell? ⟨g12, i, none⟩ = some (.slice As lq[i].2.length cs) := by
                      have h := Z.out.at_ hiq
                      rw [← hsi] at h
                      exact h
                    by_cases hjn : j < lq[i].2.length
                    · obtain ⟨g_, c_, h1, y0⟩ := Z.out.rd hiq hjn
                      rw [← hsi] at h1
                      injection h1 with e1 e2 e3
                      subst e1
                      rw [P.out.2 i (by omega) hiq j hjn] at y0
                      have b3 : (0 : Int) ≤ (j : Int) := by omega
                      have b4 : (j : Int) < (lq[i].2.length : Int) := by omega
                      have hw1 : IntKind.i64.wrap (200000 * (i : Int)) = 200000 * (i : Int) := IntWalk.i64_in _ (by omega)
                      have hw2 : IntKind.i64.wrap (200000 * (i : Int) + (j : Int)) = 200000 * (i : Int) + (j : Int) := IntWalk.i64_in _ (by omega)
                      clear e2 e3 hsi
                      go_wp2
                      go_roundw
                      case rel => exact ⟨j + 1, by go_num, by omega, Z⟩
                      case measure => simp [intOf]; omega
                    · obtain rfl : j = lq[i].2.length := by omega
                      clear hjn hsi
                      go_wp2
                      go_roundw
                      case rel => exact ⟨i + 1, by go_num, by omega, Z⟩
                      case measure => simp [intOf]; omega
                · obtain rfl : i = ls.length := by omega
                  clear hil hi
                  go_wp2
                  have S := Aside0.mk (S8.out.below Z.out.bel)
                  clear Z S8 P hq hlq
                  obtain ⟨gx, hgx⟩ := headOf (Kd.R_form S.out.tx (by rw [HXtx.out]; simp))
                  subst hgx
                  obtain ⟨gw, hgw⟩ := headOf (Kd.R_form S.out.wx (by rw [HXwx.out]; simp))
                  subst hgw
                  have htl : tx.length = l0.length + 1 := by rw [HXtx.out]; simp
                  have hwl : wx.length = l1.length + 1 := by rw [HXwx.out]; simp
                  have bm0 : (0 : Int) ≤ (l0.length : Int) := by omega
                  have bm1 : (l0.length : Int) < (tx.length : Int) := by omega
                  have bm2 : (0 : Int) ≤ (l1.length : Int) := by omega
                  have bm3 : (l1.length : Int) < (wx.length : Int) := by omega
                  have bm4 : l1.length ≤ wx.length := by omega
                  have bm5 : wx.length ≤ cwx := (Kd.R_reads' S.out.wx).2.1
                  have bm6 : (l1.length : Int) ≤ (wx.length : Int) := by omega
                  have bm7 : (wx.length : Int) ≤ (cwx : Int) := by omega
                  have bm8 : (l1.length : Int) ≤ (cwx : Int) := by omega
                  have bm9 : l1.length ≤ cwx := by omega
                  clear htl hwl
                  have KA : Aside0 (∀ W', St w W' (boxW A0 A1 l0.length l1.length c0 c1 a2 a3) (some ⟨gx, 0, none⟩) ctx tx (some ⟨gw, 0, none⟩) cwx wx Aw want Ar reds Ah hv → W'.cell? ⟨w.heap.size, 0, none⟩ = some (.slice A0 l0.length c0) ∧ W'.cell? ⟨w.heap.size, 1, none⟩ = some (.slice A1 l1.length c1) ∧ W'.cell? ⟨gx, l0.length * 6, none⟩ = some (.int .i64 77) ∧ W'.cell? ⟨gw, l1.length, none⟩ = some (.int .i64 77)) := ⟨fun W' h => ⟨boxm0 h.cy.box, boxm1 h.cy.box, (row49 h.tx (i := l0.length) (p := ⟨77, 0, 0, 0, 0, 0⟩) (by rw [HXtx.out, List.getElem?_append_right (Nat.le_refl _), Nat.sub_self]; rfl)).1.1, rowI h.wx (i := l1.length) (p := 77) (by rw [HXwx.out, List.getElem?_append_right (Nat.le_refl _), Nat.sub_self]; rfl)⟩⟩
                  go_region_held3 (fun W' => W'.cell? ⟨w.heap.size, 0, none⟩ = some (.slice A0 l0.length c0) ∧ W'.cell? ⟨w.heap.size, 1, none⟩ = some (.slice A1 l1.length c1) ∧ W'.cell? ⟨gx, l0.length * 6, none⟩ = some (.int .i64 77) ∧ W'.cell? ⟨gw, l1.length, none⟩ = some (.int .i64 77)) (first | (with_reducible exact KA.out _ S.out) | (with_reducible exact KA.out _ S.out.drew) | (with_reducible exact KA.out _ S1.out) | (with_reducible exact KA.out _ S2.out)) (first
                    | (go_at_call 24; (with_reducible refine (larchref17_Same.calls k (some ⟨gx, 0, none⟩) ctx l0 A0 c0 l0 true wr.drew (tx_C S.out.drew.tx HXtx.out).1 (tx_C S.out.drew.tx HXtx.out).2 (Kd.C_below HT.out S.out.drew.cy.bel) HTC.out HF.out.st).mono ?_); rintro e_ e1 ⟨rfl, hd⟩; have S1 := Aside0.mk (S.out.drew.below hd.below); clear hd)
                    | (go_at_call 12; (with_reducible refine (larchref17_SameInts.calls k (some ⟨gw, 0, none⟩) cwx l1 A1 c1 l1 true e1 (wx_C S1.out.wx HXwx.out).1 (wx_C S1.out.wx HXwx.out).2 (Kd.C_below HW.out S1.out.cy.bel) HWC.out HF.out.sw).mono ?_); rintro e_ e2 ⟨rfl, hd⟩; have S2 := Aside0.mk (S1.out.below hd.below); clear hd))
                  go_wp2
                  have F : Aside0 (L5 w e2 (boxW A0 A1 l0.length l1.length c0 c1 a2 a3) gx ctx tx.length tx) := ⟨⟨S2.out.cy, S2.out.tx⟩⟩
                  clear S S1 S2 KA bm2 bm3 bm4 bm5 bm6 bm7 bm8 bm9
                  go_loopw [28] (fun v28 W => ∃ (i : Nat), v28 = .int .i64 (i : Int) ∧ i ≤ l0.length ∧ Aside0 (L5 w W (boxW A0 A1 l0.length l1.length c0 c1 a2 a3) gx ctx tx.length (spW i l0 ++ ([⟨77, 0, 0, 0, 0, 0⟩] : List S49)))) (fun v28 _ => l0.length - (intOf v28).toNat)
                  case atStart => exact ⟨0, rfl, Nat.zero_le _, ⟨by rw [spW_zero, ← HXtx.out]; exact F.out⟩⟩
                  case round =>
                    clear F
                    obtain ⟨i, rfl, hi, F⟩ := hrel
                    have hmm3 := HLEN.out.1
                    by_cases him : i < l0.length
                    · have b1 : (0 : Int) ≤ (i : Int) := by omega
                      have b2 : (i : Int) < (l0.length : Int) := by omega
                      have hpi : (spW i l0 ++ ([⟨77, 0, 0, 0, 0, 0⟩] : List S49))[i]? = some l0[i] := by rw [List.getElem?_append_left (by rw [spW_len]; exact him), spW_at him, if_neg (Nat.lt_irrefl _)]
                      have hpl : i < (spW i l0 ++ ([⟨77, 0, 0, 0, 0, 0⟩] : List S49)).length := by rw [List.length_append, spW_len]; omega
                      have hpe : (spW i l0 ++ ([⟨77, 0, 0, 0, 0, 0⟩] : List S49))[i] = l0[i] := by rw [List.getElem?_eq_getElem hpl] at hpi; injection hpi
                      obtain ⟨⟨-, -, y2, -, -, -⟩, -, -, f2, -, -, -⟩ := row49 F.out.tx hpi
                      have ZZ := Aside0.mk (F.out.write hpl (wgt l0[i].f2 i))
                      rw [hpe, spW_set him] at ZZ
                      clear F hpi hpe hpl
                      go_wp2
                      go_roundw
                      case rel => exact ⟨i + 1, by go_num, by omega, ZZ⟩
                      case measure => simp [intOf]; omega
                    · obtain rfl : i = l0.length := by omega
                      clear him hi
                      obtain ⟨ys, hys⟩ : ∃ ys, ys = spW l0.length l0 := ⟨_, rfl⟩
                      have hyl : ys.length = l0.length := by rw [hys, spW_len]
                      rw [← hys] at F
                      have HV : Aside0 (weigh_Violations.f k ys = some (vm, ve) ∧ larchref17_Violations.f k ys = some (vm, ve) ∧ larchref17_Same.f k ys ys = some true) := ⟨by rw [hys]; exact ⟨HF.out.viol, HF.out.rviol, HF.out.sn⟩⟩
                      have hcp := larchlaw17_copied.calls (some ⟨gx, 0, none⟩) ctx ys ys wr F.out.tC.1 F.out.tC.2 (copied_fW ys (by omega))
                      have HYL := Aside0.mk hyl
                      rw [hyl] at hcp
                      have HCP := Aside0.mk hcp
                      clear hcp hys hyl
                      go_wp2_with (first
                        | (go_at_call 10; (with_reducible refine HCP.out.mono ?_); rintro e_ x1 ⟨v, rfl, ho, hb⟩; obtain ⟨Anw, cnw, rfl⟩ := Kd.R_slice ho; rw [HYL.out]; have NW := Aside0.mk (Kd.R_reads' ho); have F1 := Aside0.mk (F.out.below hb); clear ho hb HCP)
                        | (go_at_call 15; have hcr := weigh_Violations.calls k (some ⟨gx, 0, none⟩) ctx ys vm ve x1 F1.out.tC.1 F1.out.tC.2 HV.out.1; rw [HYL.out] at hcr; (with_reducible refine hcr.mono ?_); clear hcr; rintro e_ x2 ⟨rfl, hb⟩; have NW2 := Aside0.mk (Kd.C_below NW.out.2.2 hb); have F2 := Aside0.mk (F1.out.below hb); clear hb)
                        | (go_at_call 16; have hcr := larchref17_Violations.calls k Anw cnw ys vm ve x2 NW2.out NW.out.2.1 HV.out.2.1; rw [HYL.out] at hcr; (with_reducible refine hcr.mono ?_); clear hcr; rintro e_ x3 ⟨rfl, hb⟩; have NW3 := Aside0.mk (Kd.C_below NW2.out hb); have F3 := Aside0.mk (F2.out.below hb); clear hb)
                        | (go_at_call 24; have hcr := larchref17_Same.calls k (some ⟨gx, 0, none⟩) ctx ys Anw cnw ys true x3 F3.out.tC.1 F3.out.tC.2 NW3.out NW.out.2.1 HV.out.2.2; rw [HYL.out] at hcr; (with_reducible refine hcr.mono ?_); clear hcr; rintro e_ x4 ⟨rfl, hd⟩; have F4 := Aside0.mk (F3.out.below hd.below); clear hd))
                      go_ret
                      exact ⟨rfl, F4.out.cy.bel⟩
end Go.Proofs.Ytmmjkebboonnkaa.P
