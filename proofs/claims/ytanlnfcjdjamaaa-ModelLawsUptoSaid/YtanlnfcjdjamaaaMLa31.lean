/- P.modelLaws_holds, part 32 of 35: the contracts of the Go functions that the law calls, its own walk, and its plain law, for every input that the statement speaks of. -/
import Derived.Test.YtanlnfcjdjamaaaMLa30
import Derived.Test.YtanlnfcjdjamaaaMLa24
import Derived.Test.YtanlnfcjdjamaaaMLa23
import Derived.Test.YtanlnfcjdjamaaaMLa18
import Derived.Test.YtanlnfcjdjamaaaMLa2
import Derived.Test.YtanlnfcjdjamaaaMLa25
set_option linter.unusedVariables false
set_option linter.unusedSimpArgs false
/- E20 -/
namespace Go.Proofs.Ytanlnfcjdjamaaa.P
open Go.RowKit Go.Proofs.YtanlnfcjdjamaaaW.PrintWords Go.Proofs.YtanlnfcjdjamaaaW.PrintLast Go.Proofs.YtanlnfcjdjamaaaW.PrintMore
theorem Cy.sub {w W : World} {cs : Array Value} {rows rows' : List Lw} {bxs bxs' : List Ans} (h : Cy w W cs rows bxs) (hr : ∀ r ∈ rows', r ∈ rows) (hb : ∀ q ∈ bxs', q ∈ bxs) : Cy w W cs rows' bxs' := ⟨h.box, h.bel, fun r hm => h.rows r (hr r hm), fun q hm => h.bxs q (hb q hm)⟩
theorem Cy.ofAns {w W : World} {cs : Array Value} {rows : List Lw} {bxs : List Ans} (h : Cy w W cs rows bxs) {g c : Nat} {q0 : Bool} {q1 q2 : Int} {A : Option Addr} {ps : List S51} (hm : (⟨g, q0, q1, q2, A, c, ps⟩ : Ans) ∈ bxs) : Cy w W cs (⟨A, c, ps⟩ :: rows) bxs := h.row (h.bxs _ hm).2
theorem heap51 : Kd.Heap k51 := Kd.heap_iso _ (Kd.heap_pair (Kd.heap_int _) (Kd.heap_int _))
theorem heap27 : Kd.Heap k27 := Kd.heap_iso _ (Kd.heap_pair Kd.heap_bool (Kd.heap_pair (Kd.heap_int _) (Kd.heap_pair (Kd.heap_int _) (Kd.heap_slice 51 heap51))))
theorem boxk4 {W : World} {n : Nat} {A0 A1 B2 B3 A4 : Option Addr} {n0 n1 n2 n3 n4 c0 c1 d2 d3 c4 : Nat} {o0 o1 o2 o3 : Int} {b : Bool} {q1 q2 kk hh : Int} (h : W.heap[n]? = some (.cells (boxL A0 A1 B2 B3 A4 n0 n1 n2 n3 n4 c0 c1 d2 d3 c4 o0 o1 o2 o3 b q1 q2 kk hh) 29 (0, 0))) :
    W.cell? ⟨n, 0, none⟩ = some (.slice A0 n0 c0) ∧ W.cell? ⟨n, 2, none⟩ = some (.slice B2 n2 d2) ∧ W.cell? ⟨n, 3, none⟩ = some (.slice B3 n3 d3) ∧ W.cell? ⟨n, 4, none⟩ = some (.int .i64 o0) ∧ W.cell? ⟨n, 5, none⟩ = some (.int .i64 o1) ∧ W.cell? ⟨n, 6, none⟩ = some (.int .i64 o2) ∧ W.cell? ⟨n, 7, none⟩ = some (.int .i64 o3) ∧ W.cell? ⟨n, 12, none⟩ = some (.int .i64 kk) ∧ W.cell? ⟨n, 13, none⟩ = some (.int .i64 hh) :=
  ⟨(blk_cell h 0).trans rfl, (blk_cell h 2).trans rfl, (blk_cell h 3).trans rfl, (blk_cell h 4).trans rfl, (blk_cell h 5).trans rfl, (blk_cell h 6).trans rfl, (blk_cell h 7).trans rfl, (blk_cell h 12).trans rfl, (blk_cell h 13).trans rfl⟩
section
variable {W : World} {n : Nat} {A0 A1 B2 B3 A4 : Option Addr} {n0 n1 n2 n3 n4 c0 c1 d2 d3 c4 : Nat} {o0 o1 o2 o3 : Int} {b : Bool} {q1 q2 kk hh : Int}
theorem boxp4_5_6_7 (h : W.heap[n]? = some (.cells (boxL A0 A1 B2 B3 A4 n0 n1 n2 n3 n4 c0 c1 d2 d3 c4 o0 o1 o2 o3 b q1 q2 kk hh) 29 (0, 0))) : W.cell? ⟨n, 4, none⟩ = some (.int .i64 o0) ∧ W.cell? ⟨n, 5, none⟩ = some (.int .i64 o1) ∧ W.cell? ⟨n, 6, none⟩ = some (.int .i64 o2) ∧ W.cell? ⟨n, 7, none⟩ = some (.int .i64 o3) := ⟨(blk_cell h 4).trans rfl, (blk_cell h 5).trans rfl, (blk_cell h 6).trans rfl, (blk_cell h 7).trans rfl⟩
theorem boxp12_13 (h : W.heap[n]? = some (.cells (boxL A0 A1 B2 B3 A4 n0 n1 n2 n3 n4 c0 c1 d2 d3 c4 o0 o1 o2 o3 b q1 q2 kk hh) 29 (0, 0))) : W.cell? ⟨n, 12, none⟩ = some (.int .i64 kk) ∧ W.cell? ⟨n, 13, none⟩ = some (.int .i64 hh) := ⟨(blk_cell h 12).trans rfl, (blk_cell h 13).trans rfl⟩
theorem boxp12 (h : W.heap[n]? = some (.cells (boxL A0 A1 B2 B3 A4 n0 n1 n2 n3 n4 c0 c1 d2 d3 c4 o0 o1 o2 o3 b q1 q2 kk hh) 29 (0, 0))) : W.cell? ⟨n, 12, none⟩ = some (.int .i64 kk) := (blk_cell h 12).trans rfl
end
structure Laws (k : Nat) (m : List S51) (ops more : List S25) (o0 o1 o2 o3 kk hh : Int) (fl : List S51) (al : List S51) (r1 : List S27) (e : Int) (fi : List S51) (r2 : List S27) (f : Int) (nl : List S51) (z0 : Bool) (z1 z2 : Int) (np : List S51) (ch : Bool) (pl : List S51) (p0 : Bool) (p1 p2 : Int) (pp gl hl wp : List S51) (lw hg nx bk : S27) (ab be : List S51) : Prop where
  fixed : larchlaw06_fixed.f k = some true
  small : m.length < 100000000
  of_ : model_Of.f m = some fl
  small_fl : fl.length < 100000000
  chk : model_Check.f k fl = some 0
  kind : model_Kind.f o0 = some 0
  run1 : model_Run.f fl (ops ++ more) = some (al, r1, e)
  run2 : model_Run.f fl ops = some (fi, r2, f)
  smalli : fi.length < 100000000
  fne : f ≠ 0 → e = f
  do16 : model_Do.f fl o0 o1 o2 o3 = some (nl, z0, z1, z2, np, 0)
  small_nl : nl.length < 100000000
  chk16 : model_Check.f k nl = some 0
  chg : model_Changes.f o0 = some ch
  same16 : ch = false → larchref06_Same.f k nl fl = some true
  do19 : model_Do.f fl 2 kk hh 0 = some (pl, p0, p1, p2, pp, 0)
  small_pl : pl.length < 100000000
  do20 : model_Do.f pl 1 kk 0 0 = some (pl, true, 0, hh, [], 0)
  do21 : model_Do.f fl 1 kk 0 0 = some (fl, p0, p1, p2, pp, 0)
  do22 : model_Do.f pl 4 kk 0 0 = some (gl, true, 0, hh, [], 0)
  small_gl : gl.length < 100000000
  do23 : model_Do.f gl 1 kk 0 0 = some (gl, false, 0, 0, [], 0)
  sret : larchref06_SameRet.f k p0 p1 p2 pp p0 p1 p2 pp = some true
  len : (gl.length : Int) = pl.length - 1
  do27 : model_Do.f fl 9 (-9223372036854775808) 0 9223372036854775807 = some (fl, true, 0, 0, wp, 0)
  samew : larchref06_Same.f k wp fl = some true
  do28 : model_Do.f fl 7 0 0 0 = some (fl, lw.f0, lw.f1, lw.f2, lw.f3, 0)
  do29 : model_Do.f fl 8 0 0 0 = some (fl, hg.f0, hg.f1, hg.f2, hg.f3, 0)
  do30 : model_Do.f fl 5 kk 0 0 = some (fl, nx.f0, nx.f1, nx.f2, nx.f3, 0)
  do31 : model_Do.f fl 6 kk 0 0 = some (fl, bk.f0, bk.f1, bk.f2, bk.f3, 0)
  kkr : -9223372036854775808 ≤ kk ∧ kk ≤ 9223372036854775807
  rng36 : kk < 9223372036854775807 → model_Do.f fl 9 (kk + 1) 0 9223372036854775807 = some (fl, true, 0, 0, ab, 0)
  rng36' : ¬ kk < 9223372036854775807 → ab = []
  rng39 : -9223372036854775808 < kk → model_Do.f fl 9 (-9223372036854775808) 0 (kk - 1) = some (fl, true, 0, 0, be, 0)
  rng39' : ¬ -9223372036854775808 < kk → be = []
  end1 : larchlaw06_end.f k fl 0 lw.f0 lw.f1 lw.f2 lw.f3 = some true
  end2 : larchlaw06_end.f k fl ((fl.length : Int) - 1) hg.f0 hg.f1 hg.f2 hg.f3 = some true
  end3 : larchlaw06_end.f k ab 0 nx.f0 nx.f1 nx.f2 nx.f3 = some true
  end4 : larchlaw06_end.f k be ((be.length : Int) - 1) bk.f0 bk.f1 bk.f2 bk.f3 = some true
  small_be : be.length < 100000000
  fz : f = 0 → ∃ la r3, model_Run.f fi more = some (la, r3, e) ∧ r2.length + r3.length < 1000000 ∧ (e = 0 → larchref06_Same.f k al la = some true ∧ larchref06_SameRets.f k r1 (r2 ++ r3) = some true)
set_option maxHeartbeats 100000000 in
set_option maxRecDepth 100000 in
theorem larchlaw06_ModelLaws_calls (k : Nat) (A0 A1 A2 A3 A4 : Option Addr) (c0 c1 c2 c3 c4 : Nat) (l0 l1 : List S51) (l2 l3 : List S25) (o0 o1 o2 o3 : Int) (b : Bool) (q1 q2 : Int) (ps : List S51) (kk hh : Int) (fl : List S51) (al : List S51) (r1 : List S27) (e : Int) (fi : List S51) (r2 : List S27) (f : Int) (nl : List S51) (z0 : Bool) (z1 z2 : Int) (np : List S51) (ch : Bool) (pl : List S51) (p0 : Bool) (p1 p2 : Int) (pp gl hl wp : List S51) (lw hg nx bk : S27) (ab be : List S51) (w : World)
    (h0 : l0.length ≤ c0) (hr0 : Kd.C k51 w A0 l0.length l0) (h1 : l1.length ≤ c1) (hr1 : Kd.C k51 w A1 l1.length l1) (h2 : l2.length ≤ c2) (hr2 : Kd.C k25 w A2 l2.length l2) (h3 : l3.length ≤ c3) (hr3 : Kd.C k25 w A3 l3.length l3) (h4 : ps.length ≤ c4) (hr4 : Kd.C k51 w A4 ps.length ps)
    (h : Laws k (l0.take 300) (l2.take 300) (l3.take 300) o0 o1 o2 o3 kk hh fl al r1 e fi r2 f nl z0 z1 z2 np ch pl p0 p1 p2 pp gl hl wp lw hg nx bk ab be) :
    Calls Try.prog 4 #[.agg #[.slice A0 l0.length c0, .slice A1 l1.length c1, .slice A2 l2.length c2, .slice A3 l3.length c3, .int .i64 o0, .int .i64 o1, .int .i64 o2, .int .i64 o3, .bool b, .int .i64 q1, .int .i64 q2, .slice A4 ps.length c4, .int .i64 kk, .int .i64 hh]] w fun e w' => e = .returned (.bool true) ∧ Below w.heap.size w w' := by
  have hu25 := Try.underlying25
  have hu27 := Try.underlying27
  have hu51 := Try.underlying51
  have hu29 := Try.underlying29
  have hl0 : l0.length ≤ 9223372036854775807 := hr0.2.1
  have hl1 : l1.length ≤ 9223372036854775807 := hr1.2.1
  obtain ⟨m, hm⟩ : ∃ m, m = l0.take 300 := ⟨_, rfl⟩
  obtain ⟨ops, hops⟩ : ∃ ops, ops = l2.take 300 := ⟨_, rfl⟩
  obtain ⟨more, hmore⟩ : ∃ more, more = l3.take 300 := ⟨_, rfl⟩
  have hmm : m.length = min l0.length 300 := by rw [hm, List.length_take, Nat.min_comm]
  have hrm : Kd.C k51 w A0 m.length m := by rw [hm]; exact take_C hr0 300
  have hmc : m.length ≤ c0 := by rw [hmm]; omega
  rw [← hm, ← hops, ← hmore] at h
  have hop : larchlaw06_few.f ops = some ops := by rw [few_f, List.take_of_length_le (by rw [hops, List.length_take]; omega)]
  have hmo : larchlaw06_few.f more = some more := by rw [few_f, List.take_of_length_le (by rw [hmore, List.length_take]; omega)]
  have HFW := Aside0.mk (And.intro hop hmo)
  have HF := Aside0.mk h
  obtain ⟨bo, hbo⟩ : ∃ bo, bo = ops ++ more := ⟨_, rfl⟩
  have HRU := Aside0.mk (show model_Run.f fl bo = some (al, r1, e) by rw [hbo]; exact h.run1)
  have HBO := Aside0.mk hbo
  clear hbo
  have HL := less_calls A0 A1 A2 A3 c0 c1 c2 c3 l0 l1 l2 l3 o0 o1 o2 o3 b q1 q2 A4 ps.length c4 kk hh
  rw [← hops, ← hmore] at HL
  have HMM := Aside0.mk hmm
  have HMC := Aside0.mk hmc
  have HRM := Aside0.mk hrm
  have HR2 := Aside0.mk hr2
  have HR3 := Aside0.mk hr3
  have HLL := Aside0.mk HL
  have HQ := Aside0.mk (And.intro h0 (And.intro h1 (And.intro h2 (And.intro h3 (And.intro h4 (And.intro hl0 hl1))))))
  have HLEN : Aside0 (ops.length ≤ 300 ∧ more.length ≤ 300) := ⟨by rw [hops, List.length_take]; omega, by rw [hmore, List.length_take]; omega⟩
  clear h hm hmm hmc hrm hr0 hr1 hr2 hr3 hr4 HL h0 h1 h2 h3 h4 hl0 hl1 hops hmore hop hmo
  obtain ⟨Wa, hWa⟩ : ∃ Wa, Wa = w.alloc (.cells #[.slice A0 l0.length c0, .slice A1 l1.length c1, .slice A2 l2.length c2, .slice A3 l3.length c3, .int .i64 o0, .int .i64 o1, .int .i64 o2, .int .i64 o3, .bool b, .int .i64 q1, .int .i64 q2, .slice A4 ps.length c4, .int .i64 kk, .int .i64 hh] 29) := ⟨_, rfl⟩
  have hBa : Below w.heap.size w Wa := by rw [hWa]; exact below_alloc (Below.refl _ _) _
  have hXa : Wa.heap[w.heap.size]? = some (.cells #[.slice A0 l0.length c0, .slice A1 l1.length c1, .slice A2 l2.length c2, .slice A3 l3.length c3, .int .i64 o0, .int .i64 o1, .int .i64 o2, .int .i64 o3, .bool b, .int .i64 q1, .int .i64 q2, .slice A4 ps.length c4, .int .i64 kk, .int .i64 hh] 29 (0, 0)) := by rw [hWa]; exact blk_new w _
  have HWA := Aside0.mk hWa
  have HBA := Aside0.mk hBa
  have HXA := Aside0.mk hXa
  clear hWa hBa hXa
  go_enter Try.func4, Try.ntmps4
  go_wp2_with (first
    | (go_at_call 7; rw [← HWA.out]; (with_reducible refine (larchlaw06_fixed.calls k true Wa HF.out.fixed).mono ?_); rintro e_ w1 ⟨rfl, hb⟩; have HX1 := Aside0.mk (blk_below HXA.out hb); have HB1 := Aside0.mk (below_step HBA.out hb);  clear hb)
    | (go_at_call 8; (with_reducible refine (HLL.out w1 HQ.out.1 HQ.out.2.1 HQ.out.2.2.2.2.2.1 HQ.out.2.2.2.2.2.2 HQ.out.2.2.1 HQ.out.2.2.2.1 (Kd.C_below HR2.out HB1.out) (Kd.C_below HR3.out HB1.out)).mono ?_); rintro e_ w2 ⟨n0, n1, B2, d2, B3, d3, rfl, hn0, hn1, hc2, hc3, hb⟩; rw [← HMM.out] at hn0; subst hn0; have HX2 := Aside0.mk (blk_below HX1.out hb); have HB2 := Aside0.mk (below_step HB1.out hb); have HO2 := Aside0.mk (Kd.R_types hc2 HX2.out (by decide)); have HO3 := Aside0.mk (Kd.R_types hc3 HX2.out (by decide)); have S1 : Aside0 (w2.there w.heap.size 0 (#[.slice A0 m.length c0, .slice A1 n1 c1, .slice B2 ops.length d2, .slice B3 more.length d3, .int .i64 o0, .int .i64 o1, .int .i64 o2, .int .i64 o3, .bool b, .int .i64 q1, .int .i64 q2, .slice A4 ps.length c4, .int .i64 kk, .int .i64 hh] : Array Value).size) := ⟨blk_there HX2.out (Nat.le_refl _)⟩; have S3 : Aside0 ((#[.slice A0 m.length c0, .slice A1 n1 c1, .slice B2 ops.length d2, .slice B3 more.length d3, .int .i64 o0, .int .i64 o1, .int .i64 o2, .int .i64 o3, .bool b, .int .i64 q1, .int .i64 q2, .slice A4 ps.length c4, .int .i64 kk, .int .i64 hh] : Array Value).all (·.oneCell') = true) := ⟨by first | (simp [Value.oneCell']; done) | kernel_rfl⟩; clear hb hn1 hc2 hc3)
    | ((with_reducible refine gate_ (.load 29 (.tmp 1)) rfl ?_); (refine wpList_load_mid rfl 29 (.tmp 1) rfl w.heap.size 0 rfl [.slice A0 l0.length c0, .slice A1 l1.length c1, .slice A2 l2.length c2, .slice A3 l3.length c3, .int .i64 o0, .int .i64 o1, .int .i64 o2, .int .i64 o3, .bool b, .int .i64 q1, .int .i64 q2, .slice A4 ps.length c4, .int .i64 kk, .int .i64 hh] _ (blk_range HX1.out) Try.underlying29 rfl (by kernel_rfl) ?_))
    | ((with_reducible refine gate_ (.store 29 (.tmp 1) (.tmp 51)) rfl ?_); (refine wpList_store_mid rfl 29 (.tmp 1) (.tmp 51) rfl w.heap.size 0 #[.slice A0 m.length c0, .slice A1 n1 c1, .slice B2 ops.length d2, .slice B3 more.length d3, .int .i64 o0, .int .i64 o1, .int .i64 o2, .int .i64 o3, .bool b, .int .i64 q1, .int .i64 q2, .slice A4 ps.length c4, .int .i64 kk, .int .i64 hh] rfl rfl S1.out (by kernel_rfl) S3.out ?_); obtain ⟨W3, hW3⟩ : ∃ W3, W3 = w2.setCells w.heap.size 0 [.slice A0 m.length c0, .slice A1 n1 c1, .slice B2 ops.length d2, .slice B3 more.length d3, .int .i64 o0, .int .i64 o1, .int .i64 o2, .int .i64 o3, .bool b, .int .i64 q1, .int .i64 q2, .slice A4 ps.length c4, .int .i64 kk, .int .i64 hh] := ⟨_, rfl⟩; have C3 : Aside0 (Cy w W3 (boxL A0 A1 B2 B3 A4 m.length n1 ops.length more.length ps.length c0 c1 d2 d3 c4 o0 o1 o2 o3 b q1 q2 kk hh) [] []) := ⟨⟨by rw [hW3]; exact blk_fill HX2.out rfl, by rw [hW3]; exact fill_below HB2.out (Nat.le_refl _), fun r hr => by simp at hr, fun r hr => by simp at hr⟩⟩; have P3 : Aside0 (Kd.R k25 25 W3 w.heap.size (fun _ => True) (.slice B2 ops.length d2) ops) := ⟨by rw [hW3]; exact Kd.R_lower (Kd.R_mono (Kd.R_step HO2.out (fun k ho _ => setCells_far _ 0 k ho.2)) (fun _ _ => trivial)) HB1.out.size⟩; have M3 : Aside0 (Kd.R k25 25 W3 w.heap.size (fun _ => True) (.slice B3 more.length d3) more) := ⟨by rw [hW3]; exact Kd.R_lower (Kd.R_mono (Kd.R_step HO3.out (fun k ho _ => setCells_far _ 0 k ho.2)) (fun _ _ => trivial)) HB1.out.size⟩; rw [← hW3]; obtain ⟨x0, x2, x3, x4, x5, x6, x7, x12, x13⟩ := boxk4 C3.out.box; clear hW3 HB1 HB2 HX1 HX2 HXA HBA HWA HLL HO2 HO3 S1 S3)
    | (go_at_call 10; (with_reducible refine (larchlaw06_copied.calls A0 c0 m m W3 (Kd.C_below HRM.out C3.out.bel) HMC.out (copied_f m HF.out.small)).mono ?_); rintro e_ w4 ⟨v4, rfl, ho, hb⟩; obtain ⟨Au, cu, rfl⟩ := Kd.R_slice ho; have C4 := Aside0.mk (C3.out.below hb); have P4 := Aside0.mk (Kd.R_below P3.out hb); have M4 := Aside0.mk (Kd.R_below M3.out hb); have U4 := Aside0.mk (Kd.R_reads' ho); clear ho hb x0 x2 x3 x4 x5 x6 x7 x12 x13)
    | (go_at_call 20; (with_reducible refine (model_Of.calls Au cu m fl w4 U4.out.2.2 U4.out.2.1 HF.out.of_).mono ?_); rintro e_ w5 ⟨v5, rfl, ho, hb⟩; obtain ⟨Af, cf, rfl⟩ := Kd.R_slice ho; have C5 := Aside0.mk ((C4.out.below hb).row (Kd.R_mono (Kd.R_lower ho C4.out.bel.size) (fun _ _ => trivial))); have P5 := Aside0.mk (Kd.R_below P4.out hb); have M5 := Aside0.mk (Kd.R_below M4.out hb); clear ho hb)
    | (go_at_call 10; (with_reducible refine (larchlaw06_copied.calls Af cf fl fl w5 (C5.out.rowC (A := Af) (c := cf) (l := fl) (by simp)).1 (C5.out.rowC (A := Af) (c := cf) (l := fl) (by simp)).2 (copied_f fl HF.out.small_fl)).mono ?_); rintro e_ w6 ⟨v6, rfl, ho, hb⟩; obtain ⟨Av, cv, rfl⟩ := Kd.R_slice ho; have C6 := Aside0.mk (C5.out.below hb); have P6 := Aside0.mk (Kd.R_below P5.out hb); have M6 := Aside0.mk (Kd.R_below M5.out hb); have U6 := Aside0.mk (Kd.R_reads' ho); clear ho hb)
    | (go_at_call 21; (with_reducible refine (model_Check.calls k Av cv fl 0 w6 U6.out.2.2 U6.out.2.1 HF.out.chk).mono ?_); rintro e_ w7 ⟨rfl, hd⟩; have C7 := Aside0.mk (C6.out.below hd.below); have P7 := Aside0.mk (Kd.R_below P6.out hd.below); have M7 := Aside0.mk (Kd.R_below M6.out hd.below); obtain ⟨x0, x2, x3, x4, x5, x6, x7, x12, x13⟩ := boxk4 C7.out.box; clear hd)
    | (go_at_call 22; (with_reducible refine (model_Kind.calls o0 0 w7 HF.out.kind).mono ?_); rintro e_ w8 ⟨rfl, hd⟩; have C8 := Aside0.mk (C7.out.below hd.below); have P8 := Aside0.mk (Kd.R_below P7.out hd.below); have M8 := Aside0.mk (Kd.R_below M7.out hd.below); clear hd x0 x2 x3 x4 x5 x6 x7 x12 x13))
  clear C3 C4 C5 C6 C7 P3 P4 P5 P6 P7 M3 M4 M5 M6 M7 U4 U6
  have hc9 : Aside0 (ops.length ≤ 300 ∧ more.length ≤ 300) := HLEN
  go_region_held3 (fun W' => W'.cell? ⟨w.heap.size, 2, none⟩ = some (.slice B2 ops.length d2) ∧ W'.cell? ⟨w.heap.size, 3, none⟩ = some (.slice B3 more.length d3)) (first | (with_reducible exact ⟨(boxk4 C8.out.box).2.1, (boxk4 C8.out.box).2.2.1⟩) | (with_reducible exact ⟨(boxk4 C8.out.drew.box).2.1, (boxk4 C8.out.drew.box).2.2.1⟩) | (with_reducible exact ⟨(boxk4 C9.out.box).2.1, (boxk4 C9.out.box).2.2.1⟩) | exact ⟨(boxk4 C10.out.box).2.1, (boxk4 C10.out.box).2.2.1⟩) (first
    | (go_at_call 15; (with_reducible refine (larchlaw06_few.calls B2 d2 ops ops w8.drew (Kd.R_reads' (Kd.R_drew P8.out)).2.2 (Kd.R_reads' P8.out).2.1 HFW.out.1).mono ?_); rintro e_ w9 ⟨v9, rfl, ho, hb⟩; obtain ⟨Bf, df, rfl⟩ := Kd.R_slice ho; have C9 := Aside0.mk (C8.out.drew.below hb); have T9 := Aside0.mk ho; have HB9 := Aside0.mk hb; have M9 := Aside0.mk (Kd.R_below (Kd.R_drew M8.out) hb); clear ho hb)
    | (refine Kd.R_append_rows_step k25 (w0 := w8.drew) w8.drew.heap.size (by rfl) (.tmp 72) (.tmp 74) 23 25 (.agg #[(.int .i64 0), (.int .i64 0), (.int .i64 0), (.int .i64 0)]) 32 rfl Try.underlying23 info25 rfl (by decide) (by omega) (.slice Bf ops.length df) ops more _ _ _ (fun _ => True) (fun _ => False) rfl rfl T9.out ?aR (fun _ _ h => h) (fun _ h => h.elim) (fun _ _ => trivial) HB9.out HB9.out.size ?aL ?_; (case aR => exact (Kd.R_reads' M9.out).2.2); (case aL => have := hc9.out; omega); intro v10 w10 ho hb hg hat; rw [← HBO.out] at ho; obtain ⟨Bb, db, rfl⟩ := Kd.R_slice ho; have C10 := Aside0.mk (C8.out.drew.below hb); have P10 := Aside0.mk (Kd.R_below (Kd.R_drew P8.out) hb); have M10 := Aside0.mk (Kd.R_below (Kd.R_drew M8.out) hb); have BO10 := Aside0.mk (Kd.R_reads' ho); clear ho hb hg hat))
  clear C8 C9 T9 HB9 M9 P8 M8
  go_wp2_with (first
    | (go_at_call 10; (with_reducible refine (larchlaw06_copied.calls Af cf fl fl w10 (C10.out.rowC (A := Af) (c := cf) (l := fl) (by simp)).1 (C10.out.rowC (A := Af) (c := cf) (l := fl) (by simp)).2 (copied_f fl HF.out.small_fl)).mono ?_); rintro e_ w11 ⟨v11, rfl, ho, hb⟩; obtain ⟨Au, cu, rfl⟩ := Kd.R_slice ho; have C11 := Aside0.mk (C10.out.below hb); have P11 := Aside0.mk (Kd.R_below P10.out hb); have M11 := Aside0.mk (Kd.R_below M10.out hb); have BC11 := Aside0.mk (Kd.C_below BO10.out.2.2 hb); have U11 := Aside0.mk (Kd.R_reads' ho); clear ho hb)
    | (go_at_call 14; (with_reducible refine (model_Run.calls Au cu fl Bb db bo al r1 e w11 U11.out.2.2 U11.out.2.1 BC11.out BO10.out.2.1 HRU.out).mono ?_); rintro e_ w12 ⟨v12, u12, rfl, hR, hS, hb⟩; obtain ⟨Al, cl, rfl⟩ := Kd.R_slice hR; obtain ⟨As, cs, rfl⟩ := Kd.S_slice hS; have C12 := Aside0.mk ((C11.out.below hb).row (Kd.R_mono (Kd.R_lower hR C11.out.bel.size) (fun _ _ => trivial))); have P12 := Aside0.mk (Kd.R_below P11.out hb); have M12 := Aside0.mk (Kd.R_below M11.out hb); have S12 := Aside0.mk (Kd.S_reads' hS); clear hR hS hb))
  clear C10 C11 P10 P11 M10 M11 BO10 BC11 U11
  go_region_held3 (fun W' => W'.cell? ⟨w.heap.size, 2, none⟩ = some (.slice B2 ops.length d2)) (first | (with_reducible exact (boxk4 C12.out.drew.box).2.1) | (with_reducible exact (boxk4 C13.out.box).2.1) | (with_reducible exact (boxk4 C14.out.box).2.1) | (with_reducible exact (boxk4 C15.out.box).2.1)) (first
    | (go_at_call 10; (with_reducible refine (larchlaw06_copied.calls Af cf fl fl w12.drew ((C12.out.drew.rowC (A := Af) (c := cf) (l := fl) (by simp)).1) ((C12.out.rowC (A := Af) (c := cf) (l := fl) (by simp)).2) (copied_f fl HF.out.small_fl)).mono ?_); rintro e_ w13 ⟨v13, rfl, ho, hb⟩; obtain ⟨Au, cu, rfl⟩ := Kd.R_slice ho; have C13 := Aside0.mk (C12.out.drew.below hb); have P13 := Aside0.mk (Kd.R_below (Kd.R_drew P12.out) hb); have M13 := Aside0.mk (Kd.R_below (Kd.R_drew M12.out) hb); have S13 := Aside0.mk (Kd.C_below (Kd.C_below S12.out.2.2 (below_drew1 (Below.refl _ _))) hb); have U13 := Aside0.mk (Kd.R_reads' ho); clear ho hb)
    | (go_at_call 15; (with_reducible refine (larchlaw06_few.calls B2 d2 ops ops w13 (Kd.R_reads' P13.out).2.2 (Kd.R_reads' P13.out).2.1 HFW.out.1).mono ?_); rintro e_ w14 ⟨v14, rfl, ho, hb⟩; obtain ⟨Bf, df, rfl⟩ := Kd.R_slice ho; have C14 := Aside0.mk (C13.out.below hb); have P14 := Aside0.mk (Kd.R_below P13.out hb); have M14 := Aside0.mk (Kd.R_below M13.out hb); have S14 := Aside0.mk (Kd.C_below S13.out hb); have U14 := Aside0.mk (Kd.C_below U13.out.2.2 hb); have F14 := Aside0.mk (Kd.R_reads' ho); clear ho hb)
    | (go_at_call 14; (with_reducible refine (model_Run.calls Au cu fl Bf df ops fi r2 f w14 U14.out U13.out.2.1 F14.out.2.2 F14.out.2.1 HF.out.run2).mono ?_); rintro e_ w15 ⟨v15, u15, rfl, hR, hS, hb⟩; obtain ⟨Ai, ci, rfl⟩ := Kd.R_slice hR; obtain ⟨At, ct, rfl⟩ := Kd.S_slice hS; have C15 := Aside0.mk ((C14.out.below hb).row (Kd.R_mono (Kd.R_lower hR C14.out.bel.size) (fun _ _ => trivial))); have P15 := Aside0.mk (Kd.R_below P14.out hb); have M15 := Aside0.mk (Kd.R_below M14.out hb); have S15 := Aside0.mk (Kd.C_below S14.out hb); have Z15 := Aside0.mk (Kd.S_reads' hS); clear hR hS hb))
  clear C12 C13 C14 P12 P13 P14 M12 M13 M14 S13 S14 U13 U14 F14
  simp only [Exit.then]
  rename_i K10 hK10 hHeld10
  refine hK10 _ _ ?_
  clear hHeld10 hK10 K10
  refine wp_seq_k fun K16 hK16 => ?_
  refine wp_named fun F9 hF9 => ?_
  have HF9 := Aside0.mk hF9
  refine Code.wp_mono (Q := fun (e : Exit) (a' : Act) (W : World) => e = .normal ∧ ∃ (u94 u95 u11 u12 u13 u96 u97 u98 u99 u100 u101 u102 u103 u104 u105 u106 u107 u108 u109 u110 u111 u112 u113 u114 u115 u116 u117 u118 u119 u120 u121 u122 u123 u124 u125 u126 u127 u128 u129 u130 u131 : Value), a' = puts F9 [(94, u94), (95, u95), (11, u11), (12, u12), (13, u13), (96, u96), (97, u97), (98, u98), (99, u99), (100, u100), (101, u101), (102, u102), (103, u103), (104, u104), (105, u105), (106, u106), (107, u107), (108, u108), (109, u109), (110, u110), (111, u111), (112, u112), (113, u113), (114, u114), (115, u115), (116, u116), (117, u117), (118, u118), (119, u119), (120, u120), (121, u121), (122, u122), (123, u123), (124, u124), (125, u125), (126, u126), (127, u127), (128, u128), (129, u129), (130, u130), (131, u131)] ∧ Cy w W (boxL A0 A1 B2 B3 A4 m.length n1 ops.length more.length ps.length c0 c1 d2 d3 c4 o0 o1 o2 o3 b q1 q2 kk hh) [⟨Af, cf, fl⟩] []) ?tail10 ?walk10
  case walk10 => as_aux_lemma =>
    subst hF9
    clear HF9 hK16
    by_cases hf : f = 0
    · have hfb : ((f : Int) == 0) = true := by simp [hf]
      obtain ⟨la, r3, hg1, hg2, hg3⟩ := HF.out.fz hf
      have HG1 := Aside0.mk hg1
      have HG2 := Aside0.mk hg2
      have HG3 := Aside0.mk hg3
      clear hg1 hg2 hg3
      clear hf
      go_wp2
      go_region_held3 (fun W' => W'.cell? ⟨w.heap.size, 3, none⟩ = some (.slice B3 more.length d3)) (first | (with_reducible exact (boxk4 C15.out.drew.box).2.2.1) | (with_reducible exact (boxk4 C16.out.box).2.2.1) | (with_reducible exact (boxk4 C17.out.box).2.2.1) | (with_reducible exact (boxk4 C18.out.box).2.2.1)) (first
        | (go_at_call 10; (with_reducible refine (larchlaw06_copied.calls Ai ci fi fi w15.drew ((C15.out.drew.rowC (A := Ai) (c := ci) (l := fi) (by simp)).1) ((C15.out.rowC (A := Ai) (c := ci) (l := fi) (by simp)).2) (copied_f fi HF.out.smalli)).mono ?_); rintro e_ w16 ⟨v16, rfl, ho, hb⟩; obtain ⟨Aj, cj, rfl⟩ := Kd.R_slice ho; have C16 := Aside0.mk (C15.out.drew.below hb); have M16 := Aside0.mk (Kd.R_below (Kd.R_drew M15.out) hb); have S16 := Aside0.mk (Kd.C_below (Kd.C_below S15.out (below_drew1 (Below.refl _ _))) hb); have Z16 := Aside0.mk (Kd.C_below (Kd.C_below Z15.out.2.2 (below_drew1 (Below.refl _ _))) hb); have U16 := Aside0.mk (Kd.R_reads' ho); clear ho hb)
        | (go_at_call 15; (with_reducible refine (larchlaw06_few.calls B3 d3 more more w16 (Kd.R_reads' M16.out).2.2 (Kd.R_reads' M16.out).2.1 HFW.out.2).mono ?_); rintro e_ w17 ⟨v17, rfl, ho, hb⟩; obtain ⟨Bg, dg, rfl⟩ := Kd.R_slice ho; have C17 := Aside0.mk (C16.out.below hb); have S17 := Aside0.mk (Kd.C_below S16.out hb); have Z17 := Aside0.mk (Kd.C_below Z16.out hb); have U17 := Aside0.mk (Kd.C_below U16.out.2.2 hb); have F17 := Aside0.mk (Kd.R_reads' ho); clear ho hb)
        | (go_at_call 14; (with_reducible refine (model_Run.calls Aj cj fi Bg dg more la r3 e w17 U17.out U16.out.2.1 F17.out.2.2 F17.out.2.1 HG1.out).mono ?_); rintro e_ w18 ⟨v18, u18, rfl, hR, hS, hb⟩; obtain ⟨Ak, ck, rfl⟩ := Kd.R_slice hR; obtain ⟨As3, cs3, rfl⟩ := Kd.S_slice hS; have C18 := Aside0.mk ((C17.out.below hb).row (Kd.R_mono (Kd.R_lower hR C17.out.bel.size) (fun _ _ => trivial))); have S18 := Aside0.mk (Kd.C_below S17.out hb); have Z18 := Aside0.mk (Kd.C_below Z17.out hb); have Y18 := Aside0.mk (Kd.S_reads' hS); clear hR hS hb))
      clear C15 C16 C17 M15 M16 S15 S16 S17 Z16 Z17 U16 U17 F17
      by_cases he : e = 0
      · have heb : ((e : Int) == 0) = true := by simp [he]
        obtain ⟨hg4, hg5⟩ := HG3.out he
        obtain ⟨rr, hrr⟩ : ∃ rr, rr = r2 ++ r3 := ⟨_, rfl⟩
        rw [← hrr] at hg5
        have HRR := Aside0.mk hrr
        have HG4 := Aside0.mk hg4
        have HG5 := Aside0.mk hg5
        clear hg4 hg5 HG3 he hrr
        go_wp2_with (first
          | (go_at_call 12; (with_reducible refine (larchref06_Same.calls k Al cl al Ak ck la true w18 (C18.out.rowC (A := Al) (c := cl) (l := al) (by simp)).1 (C18.out.rowC (A := Al) (c := cl) (l := al) (by simp)).2 (C18.out.rowC (A := Ak) (c := ck) (l := la) (by simp)).1 (C18.out.rowC (A := Ak) (c := ck) (l := la) (by simp)).2 HG4.out).mono ?_); rintro e_ w19 ⟨rfl, hd⟩; have C19 := Aside0.mk (C18.out.below hd.below); have S19 := Aside0.mk (Kd.C_below S18.out hd.below); have Z19 := Aside0.mk (Kd.C_below Z18.out hd.below); have Y19 := Aside0.mk (Kd.C_below Y18.out.2.2 hd.below); have FZ := Aside0.mk (Kd.C_F heap27 Z19.out); have FY := Aside0.mk (Kd.C_F heap27 Y19.out); clear hd)
          | ((with_reducible refine gate_dst (N := 119) rfl ?_); (refine gate_guard (by rfl) ?_); refine Kd.N_lit k27 (w0 := w19) w19.heap.size 27 ?hg (N' := 119) ?hd (xs := ([] : List S27)) (inner := []) (ok := fun _ => True) (okp := fun _ => True) ?hr ?hp (fun _ hk => hk) trivial (Below.refl _ _) (Nat.le_refl _) (by simp) ?_; (case hd => rfl); (case hg => rfl); (case hr => first | (go_simp; done) | (go_simp; rfl)); (case hp => exact Reps.none _ _); intro v20 w20 ho hb hg hat; have N20 := Aside0.mk ho; have B20 := Aside0.mk hb; clear ho hb hg hat)
          | ((with_reducible refine gate_builtin (b := .append) (xs := #[.tmp 119, .tmp 120]) rfl ?_); (refine gate_guard (by rfl) ?_); refine Kd.N_append_rows k27 (w0 := w19) w19.heap.size rfl (.tmp 119) (.tmp 120) 38 27 (.agg #[.bool false, .int .i64 0, .int .i64 0, .slice none 0 0]) 48 rfl Try.underlying38 info27 rfl (by decide) (by omega) v20 ([] : List S27) r2 At r2.length ct (fun _ => True) (fun k => k < w19.heap.size) rfl rfl N20.out ?aR ?aP (fun _ _ => trivial) B20.out ?aS ?aL ?_; (case aR => exact Kd.F_below FZ.out B20.out); (case aP => exact fun k hk => ⟨trivial, fun he_ => by have := Kd.N_base N20.out k he_.symm; omega⟩); (case aS => exact B20.out.size); (case aL => have := HG2.out; simp; omega); intro v21 w21 ho hb hg hat; have N21 := Aside0.mk ho; have B21 := Aside0.mk hb; clear ho hb hg hat)
          | ((with_reducible refine gate_builtin (b := .append) (xs := #[.tmp 121, .tmp 122]) rfl ?_); (refine gate_guard (by rfl) ?_); refine Kd.N_append_rows k27 (w0 := w19) w19.heap.size rfl (.tmp 121) (.tmp 122) 38 27 (.agg #[.bool false, .int .i64 0, .int .i64 0, .slice none 0 0]) 48 rfl Try.underlying38 info27 rfl (by decide) (by omega) v21 ([] ++ r2) r3 As3 r3.length cs3 (fun _ => True) (fun k => k < w19.heap.size) rfl rfl N21.out ?aR ?aP (fun _ _ => trivial) B21.out ?aS ?aL ?_; (case aR => exact Kd.F_below FY.out B21.out); (case aP => exact fun k hk => ⟨trivial, fun he_ => by have := Kd.N_base N21.out k he_.symm; omega⟩); (case aS => exact B21.out.size); (case aL => have := HG2.out; simp; omega); intro v22 w22 ho hb hg hat; rw [List.nil_append, ← HRR.out] at ho; obtain ⟨Aw, cw, rfl, hcw, hCw⟩ := Kd.N_reads ho; have N22 := Aside0.mk hCw; have L22 := Aside0.mk hcw; have B22 := Aside0.mk hb; clear ho hb hg hat hcw hCw)
          | (go_at_call 17; (with_reducible refine (larchref06_SameRets.calls k As cs r1 Aw cw rr true w22 (Kd.C_below S19.out B22.out) S12.out.2.1 N22.out L22.out HG5.out).mono ?_); rintro e_ w23 ⟨rfl, hb⟩; have C23 := Aside0.mk ((C19.out.below B22.out).below hb); clear hb))
        refine ⟨(by (repeat apply Exists.intro); (try simp only [puts, List.foldl, Act.put, List.setIfInBounds_toArray, List.set_cons_zero, List.set_cons_succ]); rfl), ?_⟩
        exact C23.out.less (by simp)
      · have heb : ((e : Int) == 0) = false := by simp [he]
        clear HG3 he
        go_wp2
        refine ⟨(by (repeat apply Exists.intro); (try simp only [puts, List.foldl, Act.put, List.setIfInBounds_toArray, List.set_cons_zero, List.set_cons_succ]); rfl), ?_⟩
        exact C18.out.less (by simp)
    · have hfb : ((f : Int) == 0) = false := by simp [hf]
      have hef := HF.out.fne hf
      subst hef
      clear hf
      go_wp2
      refine ⟨(by (repeat apply Exists.intro); (try simp only [puts, List.foldl, Act.put, List.setIfInBounds_toArray, List.set_cons_zero, List.set_cons_succ]); rfl), ?_⟩
      exact C15.out.less (by simp)
  rintro e_ a_ W16 ⟨rfl, u94, u95, u11, u12, u13, u96, u97, u98, u99, u100, u101, u102, u103, u104, u105, u106, u107, u108, u109, u110, u111, u112, u113, u114, u115, u116, u117, u118, u119, u120, u121, u122, u123, u124, u125, u126, u127, u128, u129, u130, u131, rfl, hC⟩
  have C := Aside0.mk hC
  refine hK16 _ _ ?_
  clear hK16 hC C15 S12 S15 Z15 P15 M15 HRU HBO HLEN HFW
  subst hF9
  simp only [puts, List.foldl, Act.put, List.setIfInBounds_toArray, List.set_cons_zero, List.set_cons_succ]
  refine wp_seq_k fun KK hKK => ?_
  refine wp_named fun F hF => ?_
  obtain ⟨Q0, hQ0⟩ : ∃ Q0 : Exit → Act → World → Prop, Q0 = (fun (e : Exit) (a' : Act) (W : World) => e = .normal ∧ ∃ (An : Option Addr) (cn : Nat) (Anp : Option Addr) (cnp : Nat) (g16 : Nat) (u132 u133 u134 u135 u136 u137 u138 u139 u140 : Value), a' = puts F [(7, .int .i64 0), (14, .slice An nl.length cn), (15, .pointer (some ⟨g16, 0, none⟩)), (132, u132), (133, u133), (134, u134), (135, u135), (136, u136), (137, u137), (138, u138), (139, u139), (140, u140)] ∧ (Cy w W (boxL A0 A1 B2 B3 A4 m.length n1 ops.length more.length ps.length c0 c1 d2 d3 c4 o0 o1 o2 o3 b q1 q2 kk hh) [⟨An, cn, nl⟩, ⟨Af, cf, fl⟩] [⟨g16, z0, z1, z2, Anp, cnp, np⟩])) := ⟨_, rfl⟩
  have HQ0 := Aside0.mk hQ0
  clear hQ0
  refine Code.wp_mono (Q := Q0) ?tail16 ?walk16
  case walk16 => as_aux_lemma =>
    subst hF
    clear hKK
    go_region_held3 (fun W' => W'.cell? ⟨w.heap.size, 4, none⟩ = some (.int .i64 o0) ∧ W'.cell? ⟨w.heap.size, 5, none⟩ = some (.int .i64 o1) ∧ W'.cell? ⟨w.heap.size, 6, none⟩ = some (.int .i64 o2) ∧ W'.cell? ⟨w.heap.size, 7, none⟩ = some (.int .i64 o3)) (first | (with_reducible exact (boxp4_5_6_7 C.out.box)) | (with_reducible exact (boxp4_5_6_7 C.out.drew.box)) | (with_reducible exact (boxp4_5_6_7 (C.out.drew.alloc _).box)) | (with_reducible exact (boxp4_5_6_7 (C.out.alloc _).drew.box)) | (with_reducible exact (boxp4_5_6_7 CA.out.box)) | (with_reducible exact (boxp4_5_6_7 (CA.out.alloc _).box)) | (with_reducible exact (boxp4_5_6_7 CB.out.box)) | (with_reducible exact (boxp4_5_6_7 (CB.out.alloc _).box)) | exact boxp4_5_6_7 (blk_ret CB.out.box NB.out) | exact (boxp4_5_6_7 (C.out.drew.alloc _).box)) (first
      | (go_at_call 10; (with_reducible refine (larchlaw06_copied.calls Af cf fl fl _ ?s1 ?s2 (copied_f fl HF.out.small_fl)).mono ?_); (case s1 => first | exact (C.out.drew.rowC (A := Af) (c := cf) (l := fl) (by simp)).1 | exact ((C.out.drew.alloc _).rowC (A := Af) (c := cf) (l := fl) (by simp)).1 | exact (C.out.rowC (A := Af) (c := cf) (l := fl) (by simp)).1); (case s2 => exact (C.out.rowC (A := Af) (c := cf) (l := fl) (by simp)).2); rintro e_ wA ⟨vA, rfl, ho, hb⟩; obtain ⟨Ax, cx, rfl⟩ := Kd.R_slice ho; have CA : Aside0 (Cy w wA (boxL A0 A1 B2 B3 A4 m.length n1 ops.length more.length ps.length c0 c1 d2 d3 c4 o0 o1 o2 o3 b q1 q2 kk hh) [⟨Af, cf, fl⟩] []) := ⟨by first | exact C.out.drew.below hb | exact (C.out.drew.alloc _).below hb | exact C.out.below hb⟩; (first | (have TA : Aside0 (wA.heap[W16.heap.size]? = some (.cells #[.bool false, .int .i64 0, .int .i64 0, .slice none 0 0] 27 (0, 0))) := ⟨blk_below (blk_new W16.drew _) hb⟩) | (have TA : Aside0 True := ⟨trivial⟩)); have UA := Aside0.mk (Kd.R_reads' ho); clear ho hb)
      | (go_at_call 9; (with_reducible refine (model_Do.calls Ax cx fl o0 o1 o2 o3 nl z0 z1 z2 np 0 _ ?s1 UA.out.2.1 HF.out.do16).mono ?_); (case s1 => first | exact UA.out.2.2 | exact Kd.C_below UA.out.2.2 (below_alloc (Below.refl _ _) _)); rintro e_ wB ⟨vB, vC, rfl, ho, hp, hb⟩; obtain ⟨An, cn, rfl⟩ := Kd.R_slice ho; obtain ⟨Anp, cnp, rfl⟩ := Kd.R_slice hp; have CB : Aside0 (Cy w wB (boxL A0 A1 B2 B3 A4 m.length n1 ops.length more.length ps.length c0 c1 d2 d3 c4 o0 o1 o2 o3 b q1 q2 kk hh) [⟨An, cn, nl⟩, ⟨Af, cf, fl⟩] []) := ⟨by first | exact (CA.out.below hb).row (Kd.R_mono (Kd.R_lower ho CA.out.bel.size) (fun _ _ => trivial)) | exact ((CA.out.alloc _).below hb).row (Kd.R_mono (Kd.R_lower ho (CA.out.alloc _).bel.size) (fun _ _ => trivial))⟩; (first | (have TB : Aside0 (wB.heap[W16.heap.size]? = some (.cells #[.bool false, .int .i64 0, .int .i64 0, .slice none 0 0] 27 (0, 0))) := ⟨blk_below TA.out hb⟩; have NB : Aside0 (w.heap.size ≠ W16.heap.size) := ⟨Nat.ne_of_lt (blk_lt C.out.box)⟩; have LB : Aside0 (w.heap.size ≤ W16.heap.size ∧ ∀ q ∈ ([] : List Ans), q.g < W16.heap.size) := ⟨C.out.bel.size, C.out.lt⟩; obtain ⟨t50, t51, t52, t53⟩ := ans4 (b := false) (x := 0) (y := 0) (v := .slice none 0 0) TB.out; obtain ⟨f50, f51, f52, f53⟩ := ans_froz TB.out) | (have TB : Aside0 (wB.heap[wA.heap.size]? = some (.cells #[.bool false, .int .i64 0, .int .i64 0, .slice none 0 0] 27 (0, 0))) := ⟨blk_below (blk_new wA _) hb⟩; have NB : Aside0 (w.heap.size ≠ wA.heap.size) := ⟨Nat.ne_of_lt (blk_lt CA.out.box)⟩; have LB : Aside0 (w.heap.size ≤ wA.heap.size ∧ ∀ q ∈ ([] : List Ans), q.g < wA.heap.size) := ⟨CA.out.bel.size, CA.out.lt⟩; obtain ⟨t50, t51, t52, t53⟩ := ans4 (b := false) (x := 0) (y := 0) (v := .slice none 0 0) TB.out; obtain ⟨f50, f51, f52, f53⟩ := ans_froz TB.out) | (have TB : Aside0 True := ⟨trivial⟩)); have PB : Aside0 (Kd.R k51 51 wB w.heap.size (fun _ => True) (.slice Anp np.length cnp) np) := ⟨Kd.R_mono (Kd.R_lower hp (by first | exact CA.out.bel.size | exact (CA.out.alloc _).bel.size)) (fun _ _ => trivial)⟩; clear ho hp hb))
    all_goals rw [HQ0.out]
    all_goals refine ⟨rfl, An, cn, Anp, cnp, ?_⟩
    · (repeat apply Exists.intro)
      refine ⟨by (try simp only [puts, List.foldl, Act.put, List.setIfInBounds_toArray, List.set_cons_zero, List.set_cons_succ]); rfl, ?_⟩
      exact CB.out.fresh PB.out
    · (repeat apply Exists.intro)
      refine ⟨by (try simp only [puts, List.foldl, Act.put, List.setIfInBounds_toArray, List.set_cons_zero, List.set_cons_succ]); rfl, ?_⟩
      exact CB.out.filled TB.out NB.out LB.out.1 LB.out.2 PB.out
    · (repeat apply Exists.intro)
      refine ⟨by (try simp only [puts, List.foldl, Act.put, List.setIfInBounds_toArray, List.set_cons_zero, List.set_cons_succ]); rfl, ?_⟩
      exact CB.out.filled TB.out NB.out LB.out.1 LB.out.2 PB.out
  rw [HQ0.out]
  rintro e_ a_ W17 ⟨rfl, An, cn, Anp, cnp, g16, u132, u133, u134, u135, u136, u137, u138, u139, u140, rfl, hC⟩
  clear C HQ0
  have C := Aside0.mk hC
  refine hKK _ _ ?_
  clear hKK hC
  subst hF
  simp only [puts, List.foldl, Act.put, List.setIfInBounds_toArray, List.set_cons_zero, List.set_cons_succ]
  as_aux_lemma =>
  refine wp_seq_k fun KK hKK => ?_
  refine wp_named fun F hF => ?_
  obtain ⟨Q0, hQ0⟩ : ∃ Q0 : Exit → Act → World → Prop, Q0 = (fun (e : Exit) (a' : Act) (W : World) => e = .normal ∧ ∃ (u141 u142 u143 u144 u145 u146 u147 u148 u149 u150 u151 u152 u153 u154 u155 u156 u157 u158 u159 u160 : Value), a' = puts F [(141, u141), (142, u142), (143, u143), (144, u144), (145, u145), (146, u146), (147, u147), (148, u148), (149, u149), (150, u150), (151, u151), (152, u152), (153, u153), (154, u154), (155, u155), (156, u156), (157, u157), (158, u158), (159, u159), (160, u160), (161, .bool false)] ∧ (Cy w W (boxL A0 A1 B2 B3 A4 m.length n1 ops.length more.length ps.length c0 c1 d2 d3 c4 o0 o1 o2 o3 b q1 q2 kk hh) [⟨An, cn, nl⟩, ⟨Af, cf, fl⟩] [⟨g16, z0, z1, z2, Anp, cnp, np⟩])) := ⟨_, rfl⟩
  have HQ0 := Aside0.mk hQ0
  clear hQ0
  refine Code.wp_mono (Q := Q0) ?tail17 ?walk17
  case walk17 => as_aux_lemma =>
    subst hF
    clear hKK
    obtain ⟨y4, y5, y6, y7⟩ := boxp4_5_6_7 C.out.box
    rcases hch : ch with _ | _
    · have HS := Aside0.mk (HF.out.same16 hch)
      have HG := Aside0.mk ((HF.out.chg.trans (by rw [hch]) : model_Changes.f o0 = some false))
      clear hch
      go_wp2_with (first
        | (go_at_call 10; (with_reducible refine (larchlaw06_copied.calls An cn nl nl W17 (C.out.rowC (A := An) (c := cn) (l := nl) (by simp)).1 (C.out.rowC (A := An) (c := cn) (l := nl) (by simp)).2 (copied_f nl HF.out.small_nl)).mono ?_); rintro e_ wA ⟨vA, rfl, ho, hb⟩; obtain ⟨Ax, cx, rfl⟩ := Kd.R_slice ho; have CA := Aside0.mk (C.out.below hb); have UA := Aside0.mk (Kd.R_reads' ho); clear ho hb)
        | (go_at_call 21; (with_reducible refine (model_Check.calls k Ax cx nl 0 wA UA.out.2.2 UA.out.2.1 HF.out.chk16).mono ?_); rintro e_ wB ⟨rfl, hd⟩; have CB := Aside0.mk (CA.out.below hd.below); obtain ⟨x4, x5, x6, x7⟩ := boxp4_5_6_7 CB.out.box; clear hd)
        | (go_at_call 23; (with_reducible refine (model_Changes.calls o0 _ wB HG.out).mono ?_); rintro e_ wD ⟨rfl, hd⟩; have CD := Aside0.mk (CB.out.below hd.below); clear hd)
        | (go_at_call 12; (with_reducible refine (larchref06_Same.calls k An cn nl Af cf fl true wD (CD.out.rowC (A := An) (c := cn) (l := nl) (by simp)).1 (CD.out.rowC (A := An) (c := cn) (l := nl) (by simp)).2 (CD.out.rowC (A := Af) (c := cf) (l := fl) (by simp)).1 (CD.out.rowC (A := Af) (c := cf) (l := fl) (by simp)).2 HS.out).mono ?_); rintro e_ wE ⟨rfl, hd⟩; have CE := Aside0.mk (CD.out.below hd.below); clear hd))
      rw [HQ0.out]
      refine ⟨rfl, ?_⟩
      (repeat apply Exists.intro)
      refine ⟨by (try simp only [puts, List.foldl, Act.put, List.setIfInBounds_toArray, List.set_cons_zero, List.set_cons_succ]); (try rfl), ?_⟩
      exact CE.out
    · have HG := Aside0.mk ((HF.out.chg.trans (by rw [hch]) : model_Changes.f o0 = some true))
      clear hch
      go_wp2_with (first
        | (go_at_call 10; (with_reducible refine (larchlaw06_copied.calls An cn nl nl W17 (C.out.rowC (A := An) (c := cn) (l := nl) (by simp)).1 (C.out.rowC (A := An) (c := cn) (l := nl) (by simp)).2 (copied_f nl HF.out.small_nl)).mono ?_); rintro e_ wA ⟨vA, rfl, ho, hb⟩; obtain ⟨Ax, cx, rfl⟩ := Kd.R_slice ho; have CA := Aside0.mk (C.out.below hb); have UA := Aside0.mk (Kd.R_reads' ho); clear ho hb)
        | (go_at_call 21; (with_reducible refine (model_Check.calls k Ax cx nl 0 wA UA.out.2.2 UA.out.2.1 HF.out.chk16).mono ?_); rintro e_ wB ⟨rfl, hd⟩; have CB := Aside0.mk (CA.out.below hd.below); obtain ⟨x4, x5, x6, x7⟩ := boxp4_5_6_7 CB.out.box; clear hd)
        | (go_at_call 23; (with_reducible refine (model_Changes.calls o0 _ wB HG.out).mono ?_); rintro e_ wD ⟨rfl, hd⟩; have CD := Aside0.mk (CB.out.below hd.below); clear hd))
      rw [HQ0.out]
      refine ⟨rfl, ?_⟩
      (repeat apply Exists.intro)
      refine ⟨by (try simp only [puts, List.foldl, Act.put, List.setIfInBounds_toArray, List.set_cons_zero, List.set_cons_succ]); (try rfl), ?_⟩
      exact CD.out
  rw [HQ0.out]
  rintro e_ a_ W19 ⟨rfl, u141, u142, u143, u144, u145, u146, u147, u148, u149, u150, u151, u152, u153, u154, u155, u156, u157, u158, u159, u160, rfl, hC⟩
  clear C HQ0
  have C := Aside0.mk hC
  refine hKK _ _ ?_
  clear hKK hC
  subst hF
  simp only [puts, List.foldl, Act.put, List.setIfInBounds_toArray, List.set_cons_zero, List.set_cons_succ]
  as_aux_lemma =>
  refine wp_seq_k fun KK hKK => ?_
  refine wp_named fun F hF => ?_
  obtain ⟨Q0, hQ0⟩ : ∃ Q0 : Exit → Act → World → Prop, Q0 = (fun (e : Exit) (a' : Act) (W : World) => e = .normal ∧ ∃ (Ap : Option Addr) (cp : Nat) (App : Option Addr) (cpp : Nat) (g19 : Nat) (u162 u163 u164 u165 u166 u167 u168 u169 u170 u171 u172 u173 : Value), a' = puts F [(7, .int .i64 0), (16, .slice Ap pl.length cp), (17, .pointer (some ⟨g19, 0, none⟩)), (162, u162), (163, u163), (164, u164), (165, u165), (166, u166), (167, u167), (168, u168), (169, u169), (170, u170), (171, u171), (172, u172), (173, u173)] ∧ (Cy w W (boxL A0 A1 B2 B3 A4 m.length n1 ops.length more.length ps.length c0 c1 d2 d3 c4 o0 o1 o2 o3 b q1 q2 kk hh) [⟨Ap, cp, pl⟩, ⟨An, cn, nl⟩, ⟨Af, cf, fl⟩] [⟨g19, p0, p1, p2, App, cpp, pp⟩, ⟨g16, z0, z1, z2, Anp, cnp, np⟩])) := ⟨_, rfl⟩
  have HQ0 := Aside0.mk hQ0
  clear hQ0
  refine Code.wp_mono (Q := Q0) ?tail19 ?walk19
  case walk19 => as_aux_lemma =>
    subst hF
    clear hKK
    go_region_held3 (fun W' => W'.cell? ⟨w.heap.size, 12, none⟩ = some (.int .i64 kk) ∧ W'.cell? ⟨w.heap.size, 13, none⟩ = some (.int .i64 hh)) (first | (with_reducible exact (boxp12_13 C.out.box)) | (with_reducible exact (boxp12_13 C.out.drew.box)) | (with_reducible exact (boxp12_13 (C.out.drew.alloc _).box)) | (with_reducible exact (boxp12_13 (C.out.alloc _).drew.box)) | (with_reducible exact (boxp12_13 CA.out.box)) | (with_reducible exact (boxp12_13 (CA.out.alloc _).box)) | (with_reducible exact (boxp12_13 CB.out.box)) | (with_reducible exact (boxp12_13 (CB.out.alloc _).box)) | exact boxp12_13 (blk_ret CB.out.box NB.out) | exact (boxp12_13 (C.out.drew.alloc _).box)) (first
      | (go_at_call 10; (with_reducible refine (larchlaw06_copied.calls Af cf fl fl _ ?s1 ?s2 (copied_f fl HF.out.small_fl)).mono ?_); (case s1 => first | exact (C.out.drew.rowC (A := Af) (c := cf) (l := fl) (by simp)).1 | exact ((C.out.drew.alloc _).rowC (A := Af) (c := cf) (l := fl) (by simp)).1 | exact (C.out.rowC (A := Af) (c := cf) (l := fl) (by simp)).1); (case s2 => exact (C.out.rowC (A := Af) (c := cf) (l := fl) (by simp)).2); rintro e_ wA ⟨vA, rfl, ho, hb⟩; obtain ⟨Ax, cx, rfl⟩ := Kd.R_slice ho; have CA : Aside0 (Cy w wA (boxL A0 A1 B2 B3 A4 m.length n1 ops.length more.length ps.length c0 c1 d2 d3 c4 o0 o1 o2 o3 b q1 q2 kk hh) [⟨An, cn, nl⟩, ⟨Af, cf, fl⟩] [⟨g16, z0, z1, z2, Anp, cnp, np⟩]) := ⟨by first | exact C.out.drew.below hb | exact (C.out.drew.alloc _).below hb | exact C.out.below hb⟩; (first | (have TA : Aside0 (wA.heap[W19.heap.size]? = some (.cells #[.bool false, .int .i64 0, .int .i64 0, .slice none 0 0] 27 (0, 0))) := ⟨blk_below (blk_new W19.drew _) hb⟩) | (have TA : Aside0 True := ⟨trivial⟩)); have UA := Aside0.mk (Kd.R_reads' ho); clear ho hb)
      | (go_at_call 9; (with_reducible refine (model_Do.calls Ax cx fl 2 kk hh 0 pl p0 p1 p2 pp 0 _ ?s1 UA.out.2.1 HF.out.do19).mono ?_); (case s1 => first | exact UA.out.2.2 | exact Kd.C_below UA.out.2.2 (below_alloc (Below.refl _ _) _)); rintro e_ wB ⟨vB, vC, rfl, ho, hp, hb⟩; obtain ⟨Ap, cp, rfl⟩ := Kd.R_slice ho; obtain ⟨App, cpp, rfl⟩ := Kd.R_slice hp; have CB : Aside0 (Cy w wB (boxL A0 A1 B2 B3 A4 m.length n1 ops.length more.length ps.length c0 c1 d2 d3 c4 o0 o1 o2 o3 b q1 q2 kk hh) [⟨Ap, cp, pl⟩, ⟨An, cn, nl⟩, ⟨Af, cf, fl⟩] [⟨g16, z0, z1, z2, Anp, cnp, np⟩]) := ⟨by first | exact (CA.out.below hb).row (Kd.R_mono (Kd.R_lower ho CA.out.bel.size) (fun _ _ => trivial)) | exact ((CA.out.alloc _).below hb).row (Kd.R_mono (Kd.R_lower ho (CA.out.alloc _).bel.size) (fun _ _ => trivial))⟩; (first | (have TB : Aside0 (wB.heap[W19.heap.size]? = some (.cells #[.bool false, .int .i64 0, .int .i64 0, .slice none 0 0] 27 (0, 0))) := ⟨blk_below TA.out hb⟩; have NB : Aside0 (w.heap.size ≠ W19.heap.size) := ⟨Nat.ne_of_lt (blk_lt C.out.box)⟩; have LB : Aside0 (w.heap.size ≤ W19.heap.size ∧ ∀ q ∈ ([⟨g16, z0, z1, z2, Anp, cnp, np⟩] : List Ans), q.g < W19.heap.size) := ⟨C.out.bel.size, C.out.lt⟩; obtain ⟨t50, t51, t52, t53⟩ := ans4 (b := false) (x := 0) (y := 0) (v := .slice none 0 0) TB.out; obtain ⟨f50, f51, f52, f53⟩ := ans_froz TB.out) | (have TB : Aside0 (wB.heap[wA.heap.size]? = some (.cells #[.bool false, .int .i64 0, .int .i64 0, .slice none 0 0] 27 (0, 0))) := ⟨blk_below (blk_new wA _) hb⟩; have NB : Aside0 (w.heap.size ≠ wA.heap.size) := ⟨Nat.ne_of_lt (blk_lt CA.out.box)⟩; have LB : Aside0 (w.heap.size ≤ wA.heap.size ∧ ∀ q ∈ ([⟨g16, z0, z1, z2, Anp, cnp, np⟩] : List Ans), q.g < wA.heap.size) := ⟨CA.out.bel.size, CA.out.lt⟩; obtain ⟨t50, t51, t52, t53⟩ := ans4 (b := false) (x := 0) (y := 0) (v := .slice none 0 0) TB.out; obtain ⟨f50, f51, f52, f53⟩ := ans_froz TB.out) | (have TB : Aside0 True := ⟨trivial⟩)); have PB : Aside0 (Kd.R k51 51 wB w.heap.size (fun _ => True) (.slice App pp.length cpp) pp) := ⟨Kd.R_mono (Kd.R_lower hp (by first | exact CA.out.bel.size | exact (CA.out.alloc _).bel.size)) (fun _ _ => trivial)⟩; clear ho hp hb))
    all_goals rw [HQ0.out]
    all_goals refine ⟨rfl, Ap, cp, App, cpp, ?_⟩
    · (repeat apply Exists.intro)
      refine ⟨by (try simp only [puts, List.foldl, Act.put, List.setIfInBounds_toArray, List.set_cons_zero, List.set_cons_succ]); rfl, ?_⟩
      exact CB.out.fresh PB.out
    · (repeat apply Exists.intro)
      refine ⟨by (try simp only [puts, List.foldl, Act.put, List.setIfInBounds_toArray, List.set_cons_zero, List.set_cons_succ]); rfl, ?_⟩
      exact CB.out.filled TB.out NB.out LB.out.1 LB.out.2 PB.out
    · (repeat apply Exists.intro)
      refine ⟨by (try simp only [puts, List.foldl, Act.put, List.setIfInBounds_toArray, List.set_cons_zero, List.set_cons_succ]); rfl, ?_⟩
      exact CB.out.filled TB.out NB.out LB.out.1 LB.out.2 PB.out
  rw [HQ0.out]
  rintro e_ a_ W20 ⟨rfl, Ap, cp, App, cpp, g19, u162, u163, u164, u165, u166, u167, u168, u169, u170, u171, u172, u173, rfl, hC⟩
  clear C HQ0
  have C := Aside0.mk hC
  refine hKK _ _ ?_
  clear hKK hC
  subst hF
  simp only [puts, List.foldl, Act.put, List.setIfInBounds_toArray, List.set_cons_zero, List.set_cons_succ]
  as_aux_lemma =>
  refine wp_seq_k fun KK hKK => ?_
  refine wp_named fun F hF => ?_
  obtain ⟨Q0, hQ0⟩ : ∃ Q0 : Exit → Act → World → Prop, Q0 = (fun (e : Exit) (a' : Act) (W : World) => e = .normal ∧ ∃ (Aq : Option Addr) (cq : Nat) (Aqp : Option Addr) (cqp : Nat) (g20 : Nat) (u174 u175 u176 u177 u178 u179 u180 u181 u182 u183 : Value), a' = puts F [(10, .int .i64 0), (18, .slice Aq pl.length cq), (19, .pointer (some ⟨g20, 0, none⟩)), (174, u174), (175, u175), (176, u176), (177, u177), (178, u178), (179, u179), (180, u180), (181, u181), (182, u182), (183, u183)] ∧ (Cy w W (boxL A0 A1 B2 B3 A4 m.length n1 ops.length more.length ps.length c0 c1 d2 d3 c4 o0 o1 o2 o3 b q1 q2 kk hh) [⟨Aq, cq, pl⟩, ⟨Ap, cp, pl⟩, ⟨An, cn, nl⟩, ⟨Af, cf, fl⟩] [⟨g20, true, 0, hh, Aqp, cqp, ([] : List S51)⟩, ⟨g19, p0, p1, p2, App, cpp, pp⟩, ⟨g16, z0, z1, z2, Anp, cnp, np⟩])) := ⟨_, rfl⟩
  have HQ0 := Aside0.mk hQ0
  clear hQ0
  refine Code.wp_mono (Q := Q0) ?tail20 ?walk20
  case walk20 => as_aux_lemma =>
    subst hF
    clear hKK
    go_region_held3 (fun W' => W'.cell? ⟨w.heap.size, 12, none⟩ = some (.int .i64 kk)) (first | (with_reducible exact (boxp12 C.out.box)) | (with_reducible exact (boxp12 C.out.drew.box)) | (with_reducible exact (boxp12 (C.out.drew.alloc _).box)) | (with_reducible exact (boxp12 (C.out.alloc _).drew.box)) | (with_reducible exact (boxp12 CA.out.box)) | (with_reducible exact (boxp12 (CA.out.alloc _).box)) | (with_reducible exact (boxp12 CB.out.box)) | (with_reducible exact (boxp12 (CB.out.alloc _).box)) | exact boxp12 (blk_ret CB.out.box NB.out) | exact (boxp12 (C.out.drew.alloc _).box)) (first
      | (go_at_call 10; (with_reducible refine (larchlaw06_copied.calls Ap cp pl pl _ ?s1 ?s2 (copied_f pl HF.out.small_pl)).mono ?_); (case s1 => first | exact (C.out.drew.rowC (A := Ap) (c := cp) (l := pl) (by simp)).1 | exact ((C.out.drew.alloc _).rowC (A := Ap) (c := cp) (l := pl) (by simp)).1 | exact (C.out.rowC (A := Ap) (c := cp) (l := pl) (by simp)).1); (case s2 => exact (C.out.rowC (A := Ap) (c := cp) (l := pl) (by simp)).2); rintro e_ wA ⟨vA, rfl, ho, hb⟩; obtain ⟨Ax, cx, rfl⟩ := Kd.R_slice ho; have CA : Aside0 (Cy w wA (boxL A0 A1 B2 B3 A4 m.length n1 ops.length more.length ps.length c0 c1 d2 d3 c4 o0 o1 o2 o3 b q1 q2 kk hh) [⟨Ap, cp, pl⟩, ⟨An, cn, nl⟩, ⟨Af, cf, fl⟩] [⟨g19, p0, p1, p2, App, cpp, pp⟩, ⟨g16, z0, z1, z2, Anp, cnp, np⟩]) := ⟨by first | exact C.out.drew.below hb | exact (C.out.drew.alloc _).below hb | exact C.out.below hb⟩; (first | (have TA : Aside0 (wA.heap[W20.heap.size]? = some (.cells #[.bool false, .int .i64 0, .int .i64 0, .slice none 0 0] 27 (0, 0))) := ⟨blk_below (blk_new W20.drew _) hb⟩) | (have TA : Aside0 True := ⟨trivial⟩)); have UA := Aside0.mk (Kd.R_reads' ho); clear ho hb)
      | (go_at_call 9; (with_reducible refine (model_Do.calls Ax cx pl 1 kk 0 0 pl true 0 hh ([] : List S51) 0 _ ?s1 UA.out.2.1 HF.out.do20).mono ?_); (case s1 => first | exact UA.out.2.2 | exact Kd.C_below UA.out.2.2 (below_alloc (Below.refl _ _) _)); rintro e_ wB ⟨vB, vC, rfl, ho, hp, hb⟩; obtain ⟨Aq, cq, rfl⟩ := Kd.R_slice ho; obtain ⟨Aqp, cqp, rfl⟩ := Kd.R_slice hp; have CB : Aside0 (Cy w wB (boxL A0 A1 B2 B3 A4 m.length n1 ops.length more.length ps.length c0 c1 d2 d3 c4 o0 o1 o2 o3 b q1 q2 kk hh) [⟨Aq, cq, pl⟩, ⟨Ap, cp, pl⟩, ⟨An, cn, nl⟩, ⟨Af, cf, fl⟩] [⟨g19, p0, p1, p2, App, cpp, pp⟩, ⟨g16, z0, z1, z2, Anp, cnp, np⟩]) := ⟨by first | exact (CA.out.below hb).row (Kd.R_mono (Kd.R_lower ho CA.out.bel.size) (fun _ _ => trivial)) | exact ((CA.out.alloc _).below hb).row (Kd.R_mono (Kd.R_lower ho (CA.out.alloc _).bel.size) (fun _ _ => trivial))⟩; (first | (have TB : Aside0 (wB.heap[W20.heap.size]? = some (.cells #[.bool false, .int .i64 0, .int .i64 0, .slice none 0 0] 27 (0, 0))) := ⟨blk_below TA.out hb⟩; have NB : Aside0 (w.heap.size ≠ W20.heap.size) := ⟨Nat.ne_of_lt (blk_lt C.out.box)⟩; have LB : Aside0 (w.heap.size ≤ W20.heap.size ∧ ∀ q ∈ ([⟨g19, p0, p1, p2, App, cpp, pp⟩, ⟨g16, z0, z1, z2, Anp, cnp, np⟩] : List Ans), q.g < W20.heap.size) := ⟨C.out.bel.size, C.out.lt⟩; obtain ⟨t50, t51, t52, t53⟩ := ans4 (b := false) (x := 0) (y := 0) (v := .slice none 0 0) TB.out; obtain ⟨f50, f51, f52, f53⟩ := ans_froz TB.out) | (have TB : Aside0 (wB.heap[wA.heap.size]? = some (.cells #[.bool false, .int .i64 0, .int .i64 0, .slice none 0 0] 27 (0, 0))) := ⟨blk_below (blk_new wA _) hb⟩; have NB : Aside0 (w.heap.size ≠ wA.heap.size) := ⟨Nat.ne_of_lt (blk_lt CA.out.box)⟩; have LB : Aside0 (w.heap.size ≤ wA.heap.size ∧ ∀ q ∈ ([⟨g19, p0, p1, p2, App, cpp, pp⟩, ⟨g16, z0, z1, z2, Anp, cnp, np⟩] : List Ans), q.g < wA.heap.size) := ⟨CA.out.bel.size, CA.out.lt⟩; obtain ⟨t50, t51, t52, t53⟩ := ans4 (b := false) (x := 0) (y := 0) (v := .slice none 0 0) TB.out; obtain ⟨f50, f51, f52, f53⟩ := ans_froz TB.out) | (have TB : Aside0 True := ⟨trivial⟩)); have PB : Aside0 (Kd.R k51 51 wB w.heap.size (fun _ => True) (.slice Aqp ([] : List S51).length cqp) ([] : List S51)) := ⟨Kd.R_mono (Kd.R_lower hp (by first | exact CA.out.bel.size | exact (CA.out.alloc _).bel.size)) (fun _ _ => trivial)⟩; clear ho hp hb))
    all_goals rw [HQ0.out]
    all_goals refine ⟨rfl, Aq, cq, Aqp, cqp, ?_⟩
    · (repeat apply Exists.intro)
      refine ⟨by (try simp only [puts, List.foldl, Act.put, List.setIfInBounds_toArray, List.set_cons_zero, List.set_cons_succ]); rfl, ?_⟩
      exact CB.out.fresh PB.out
    · (repeat apply Exists.intro)
      refine ⟨by (try simp only [puts, List.foldl, Act.put, List.setIfInBounds_toArray, List.set_cons_zero, List.set_cons_succ]); rfl, ?_⟩
      exact CB.out.filled TB.out NB.out LB.out.1 LB.out.2 PB.out
    · (repeat apply Exists.intro)
      refine ⟨by (try simp only [puts, List.foldl, Act.put, List.setIfInBounds_toArray, List.set_cons_zero, List.set_cons_succ]); rfl, ?_⟩
      exact CB.out.filled TB.out NB.out LB.out.1 LB.out.2 PB.out
  rw [HQ0.out]
  rintro e_ a_ W21 ⟨rfl, Aq, cq, Aqp, cqp, g20, u174, u175, u176, u177, u178, u179, u180, u181, u182, u183, rfl, hC⟩
  clear C HQ0
  have C := Aside0.mk hC
  refine hKK _ _ ?_
  clear hKK hC
  subst hF
  simp only [puts, List.foldl, Act.put, List.setIfInBounds_toArray, List.set_cons_zero, List.set_cons_succ]
  as_aux_lemma =>
  refine wp_seq_k fun KK hKK => ?_
  refine wp_named fun F hF => ?_
  obtain ⟨Q0, hQ0⟩ : ∃ Q0 : Exit → Act → World → Prop, Q0 = (fun (e : Exit) (a' : Act) (W : World) => e = .normal ∧ ∃ (Ar : Option Addr) (cr : Nat) (Arp : Option Addr) (crp : Nat) (g21 : Nat) (u184 u185 u186 u187 u188 u189 u190 u191 u192 u193 : Value), a' = puts F [(20, .slice Ar fl.length cr), (21, .pointer (some ⟨g21, 0, none⟩)), (22, .int .i64 0), (184, u184), (185, u185), (186, u186), (187, u187), (188, u188), (189, u189), (190, u190), (191, u191), (192, u192), (193, u193)] ∧ (Cy w W (boxL A0 A1 B2 B3 A4 m.length n1 ops.length more.length ps.length c0 c1 d2 d3 c4 o0 o1 o2 o3 b q1 q2 kk hh) [⟨Ar, cr, fl⟩, ⟨Aq, cq, pl⟩, ⟨Ap, cp, pl⟩, ⟨An, cn, nl⟩, ⟨Af, cf, fl⟩] [⟨g21, p0, p1, p2, Arp, crp, pp⟩, ⟨g20, true, 0, hh, Aqp, cqp, ([] : List S51)⟩, ⟨g19, p0, p1, p2, App, cpp, pp⟩, ⟨g16, z0, z1, z2, Anp, cnp, np⟩])) := ⟨_, rfl⟩
  have HQ0 := Aside0.mk hQ0
  clear hQ0
  refine Code.wp_mono (Q := Q0) ?tail21 ?walk21
  case walk21 => as_aux_lemma =>
    subst hF
    clear hKK
    go_region_held3 (fun W' => W'.cell? ⟨w.heap.size, 12, none⟩ = some (.int .i64 kk)) (first | (with_reducible exact (boxp12 C.out.box)) | (with_reducible exact (boxp12 C.out.drew.box)) | (with_reducible exact (boxp12 (C.out.drew.alloc _).box)) | (with_reducible exact (boxp12 (C.out.alloc _).drew.box)) | (with_reducible exact (boxp12 CA.out.box)) | (with_reducible exact (boxp12 (CA.out.alloc _).box)) | (with_reducible exact (boxp12 CB.out.box)) | (with_reducible exact (boxp12 (CB.out.alloc _).box)) | exact boxp12 (blk_ret CB.out.box NB.out) | exact (boxp12 (C.out.drew.alloc _).box)) (first
      | (go_at_call 10; (with_reducible refine (larchlaw06_copied.calls Af cf fl fl _ ?s1 ?s2 (copied_f fl HF.out.small_fl)).mono ?_); (case s1 => first | exact (C.out.drew.rowC (A := Af) (c := cf) (l := fl) (by simp)).1 | exact ((C.out.drew.alloc _).rowC (A := Af) (c := cf) (l := fl) (by simp)).1 | exact (C.out.rowC (A := Af) (c := cf) (l := fl) (by simp)).1); (case s2 => exact (C.out.rowC (A := Af) (c := cf) (l := fl) (by simp)).2); rintro e_ wA ⟨vA, rfl, ho, hb⟩; obtain ⟨Ax, cx, rfl⟩ := Kd.R_slice ho; have CA : Aside0 (Cy w wA (boxL A0 A1 B2 B3 A4 m.length n1 ops.length more.length ps.length c0 c1 d2 d3 c4 o0 o1 o2 o3 b q1 q2 kk hh) [⟨Aq, cq, pl⟩, ⟨Ap, cp, pl⟩, ⟨An, cn, nl⟩, ⟨Af, cf, fl⟩] [⟨g20, true, 0, hh, Aqp, cqp, ([] : List S51)⟩, ⟨g19, p0, p1, p2, App, cpp, pp⟩, ⟨g16, z0, z1, z2, Anp, cnp, np⟩]) := ⟨by first | exact C.out.drew.below hb | exact (C.out.drew.alloc _).below hb | exact C.out.below hb⟩; (first | (have TA : Aside0 (wA.heap[W21.heap.size]? = some (.cells #[.bool false, .int .i64 0, .int .i64 0, .slice none 0 0] 27 (0, 0))) := ⟨blk_below (blk_new W21.drew _) hb⟩) | (have TA : Aside0 True := ⟨trivial⟩)); have UA := Aside0.mk (Kd.R_reads' ho); clear ho hb)
      | (go_at_call 9; (with_reducible refine (model_Do.calls Ax cx fl 1 kk 0 0 fl p0 p1 p2 pp 0 _ ?s1 UA.out.2.1 HF.out.do21).mono ?_); (case s1 => first | exact UA.out.2.2 | exact Kd.C_below UA.out.2.2 (below_alloc (Below.refl _ _) _)); rintro e_ wB ⟨vB, vC, rfl, ho, hp, hb⟩; obtain ⟨Ar, cr, rfl⟩ := Kd.R_slice ho; obtain ⟨Arp, crp, rfl⟩ := Kd.R_slice hp; have CB : Aside0 (Cy w wB (boxL A0 A1 B2 B3 A4 m.length n1 ops.length more.length ps.length c0 c1 d2 d3 c4 o0 o1 o2 o3 b q1 q2 kk hh) [⟨Ar, cr, fl⟩, ⟨Aq, cq, pl⟩, ⟨Ap, cp, pl⟩, ⟨An, cn, nl⟩, ⟨Af, cf, fl⟩] [⟨g20, true, 0, hh, Aqp, cqp, ([] : List S51)⟩, ⟨g19, p0, p1, p2, App, cpp, pp⟩, ⟨g16, z0, z1, z2, Anp, cnp, np⟩]) := ⟨by first | exact (CA.out.below hb).row (Kd.R_mono (Kd.R_lower ho CA.out.bel.size) (fun _ _ => trivial)) | exact ((CA.out.alloc _).below hb).row (Kd.R_mono (Kd.R_lower ho (CA.out.alloc _).bel.size) (fun _ _ => trivial))⟩; (first | (have TB : Aside0 (wB.heap[W21.heap.size]? = some (.cells #[.bool false, .int .i64 0, .int .i64 0, .slice none 0 0] 27 (0, 0))) := ⟨blk_below TA.out hb⟩; have NB : Aside0 (w.heap.size ≠ W21.heap.size) := ⟨Nat.ne_of_lt (blk_lt C.out.box)⟩; have LB : Aside0 (w.heap.size ≤ W21.heap.size ∧ ∀ q ∈ ([⟨g20, true, 0, hh, Aqp, cqp, ([] : List S51)⟩, ⟨g19, p0, p1, p2, App, cpp, pp⟩, ⟨g16, z0, z1, z2, Anp, cnp, np⟩] : List Ans), q.g < W21.heap.size) := ⟨C.out.bel.size, C.out.lt⟩; obtain ⟨t50, t51, t52, t53⟩ := ans4 (b := false) (x := 0) (y := 0) (v := .slice none 0 0) TB.out; obtain ⟨f50, f51, f52, f53⟩ := ans_froz TB.out) | (have TB : Aside0 (wB.heap[wA.heap.size]? = some (.cells #[.bool false, .int .i64 0, .int .i64 0, .slice none 0 0] 27 (0, 0))) := ⟨blk_below (blk_new wA _) hb⟩; have NB : Aside0 (w.heap.size ≠ wA.heap.size) := ⟨Nat.ne_of_lt (blk_lt CA.out.box)⟩; have LB : Aside0 (w.heap.size ≤ wA.heap.size ∧ ∀ q ∈ ([⟨g20, true, 0, hh, Aqp, cqp, ([] : List S51)⟩, ⟨g19, p0, p1, p2, App, cpp, pp⟩, ⟨g16, z0, z1, z2, Anp, cnp, np⟩] : List Ans), q.g < wA.heap.size) := ⟨CA.out.bel.size, CA.out.lt⟩; obtain ⟨t50, t51, t52, t53⟩ := ans4 (b := false) (x := 0) (y := 0) (v := .slice none 0 0) TB.out; obtain ⟨f50, f51, f52, f53⟩ := ans_froz TB.out) | (have TB : Aside0 True := ⟨trivial⟩)); have PB : Aside0 (Kd.R k51 51 wB w.heap.size (fun _ => True) (.slice Arp pp.length crp) pp) := ⟨Kd.R_mono (Kd.R_lower hp (by first | exact CA.out.bel.size | exact (CA.out.alloc _).bel.size)) (fun _ _ => trivial)⟩; clear ho hp hb))
    all_goals rw [HQ0.out]
    all_goals refine ⟨rfl, Ar, cr, Arp, crp, ?_⟩
    · (repeat apply Exists.intro)
      refine ⟨by (try simp only [puts, List.foldl, Act.put, List.setIfInBounds_toArray, List.set_cons_zero, List.set_cons_succ]); rfl, ?_⟩
      exact CB.out.fresh PB.out
    · (repeat apply Exists.intro)
      refine ⟨by (try simp only [puts, List.foldl, Act.put, List.setIfInBounds_toArray, List.set_cons_zero, List.set_cons_succ]); rfl, ?_⟩
      exact CB.out.filled TB.out NB.out LB.out.1 LB.out.2 PB.out
    · (repeat apply Exists.intro)
      refine ⟨by (try simp only [puts, List.foldl, Act.put, List.setIfInBounds_toArray, List.set_cons_zero, List.set_cons_succ]); rfl, ?_⟩
      exact CB.out.filled TB.out NB.out LB.out.1 LB.out.2 PB.out
  rw [HQ0.out]
  rintro e_ a_ W22 ⟨rfl, Ar, cr, Arp, crp, g21, u184, u185, u186, u187, u188, u189, u190, u191, u192, u193, rfl, hC⟩
  clear C HQ0
  have C := Aside0.mk hC
  refine hKK _ _ ?_
  clear hKK hC
  subst hF
  simp only [puts, List.foldl, Act.put, List.setIfInBounds_toArray, List.set_cons_zero, List.set_cons_succ]
  as_aux_lemma =>
  refine wp_seq_k fun KK hKK => ?_
  refine wp_named fun F hF => ?_
  obtain ⟨Q0, hQ0⟩ : ∃ Q0 : Exit → Act → World → Prop, Q0 = (fun (e : Exit) (a' : Act) (W : World) => e = .normal ∧ ∃ (As : Option Addr) (cs : Nat) (Asp : Option Addr) (csp : Nat) (g22 : Nat) (u194 u195 u196 u197 u198 u199 u200 u201 u202 u203 : Value), a' = puts F [(23, .slice As gl.length cs), (24, .pointer (some ⟨g22, 0, none⟩)), (25, .int .i64 0), (194, u194), (195, u195), (196, u196), (197, u197), (198, u198), (199, u199), (200, u200), (201, u201), (202, u202), (203, u203)] ∧ (Cy w W (boxL A0 A1 B2 B3 A4 m.length n1 ops.length more.length ps.length c0 c1 d2 d3 c4 o0 o1 o2 o3 b q1 q2 kk hh) [⟨As, cs, gl⟩, ⟨Ar, cr, fl⟩, ⟨Aq, cq, pl⟩, ⟨Ap, cp, pl⟩, ⟨An, cn, nl⟩, ⟨Af, cf, fl⟩] [⟨g22, true, 0, hh, Asp, csp, ([] : List S51)⟩, ⟨g21, p0, p1, p2, Arp, crp, pp⟩, ⟨g20, true, 0, hh, Aqp, cqp, ([] : List S51)⟩, ⟨g19, p0, p1, p2, App, cpp, pp⟩, ⟨g16, z0, z1, z2, Anp, cnp, np⟩])) := ⟨_, rfl⟩
  have HQ0 := Aside0.mk hQ0
  clear hQ0
  refine Code.wp_mono (Q := Q0) ?tail22 ?walk22
  case walk22 => as_aux_lemma =>
    subst hF
    clear hKK
    go_region_held3 (fun W' => W'.cell? ⟨w.heap.size, 12, none⟩ = some (.int .i64 kk)) (first | (with_reducible exact (boxp12 C.out.box)) | (with_reducible exact (boxp12 C.out.drew.box)) | (with_reducible exact (boxp12 (C.out.drew.alloc _).box)) | (with_reducible exact (boxp12 (C.out.alloc _).drew.box)) | (with_reducible exact (boxp12 CA.out.box)) | (with_reducible exact (boxp12 (CA.out.alloc _).box)) | (with_reducible exact (boxp12 CB.out.box)) | (with_reducible exact (boxp12 (CB.out.alloc _).box)) | exact boxp12 (blk_ret CB.out.box NB.out) | exact (boxp12 (C.out.drew.alloc _).box)) (first
      | (go_at_call 10; (with_reducible refine (larchlaw06_copied.calls Ap cp pl pl _ ?s1 ?s2 (copied_f pl HF.out.small_pl)).mono ?_); (case s1 => first | exact (C.out.drew.rowC (A := Ap) (c := cp) (l := pl) (by simp)).1 | exact ((C.out.drew.alloc _).rowC (A := Ap) (c := cp) (l := pl) (by simp)).1 | exact (C.out.rowC (A := Ap) (c := cp) (l := pl) (by simp)).1); (case s2 => exact (C.out.rowC (A := Ap) (c := cp) (l := pl) (by simp)).2); rintro e_ wA ⟨vA, rfl, ho, hb⟩; obtain ⟨Ax, cx, rfl⟩ := Kd.R_slice ho; have CA : Aside0 (Cy w wA (boxL A0 A1 B2 B3 A4 m.length n1 ops.length more.length ps.length c0 c1 d2 d3 c4 o0 o1 o2 o3 b q1 q2 kk hh) [⟨Ar, cr, fl⟩, ⟨Aq, cq, pl⟩, ⟨Ap, cp, pl⟩, ⟨An, cn, nl⟩, ⟨Af, cf, fl⟩] [⟨g21, p0, p1, p2, Arp, crp, pp⟩, ⟨g20, true, 0, hh, Aqp, cqp, ([] : List S51)⟩, ⟨g19, p0, p1, p2, App, cpp, pp⟩, ⟨g16, z0, z1, z2, Anp, cnp, np⟩]) := ⟨by first | exact C.out.drew.below hb | exact (C.out.drew.alloc _).below hb | exact C.out.below hb⟩; (first | (have TA : Aside0 (wA.heap[W22.heap.size]? = some (.cells #[.bool false, .int .i64 0, .int .i64 0, .slice none 0 0] 27 (0, 0))) := ⟨blk_below (blk_new W22.drew _) hb⟩) | (have TA : Aside0 True := ⟨trivial⟩)); have UA := Aside0.mk (Kd.R_reads' ho); clear ho hb)
      | (go_at_call 9; (with_reducible refine (model_Do.calls Ax cx pl 4 kk 0 0 gl true 0 hh ([] : List S51) 0 _ ?s1 UA.out.2.1 HF.out.do22).mono ?_); (case s1 => first | exact UA.out.2.2 | exact Kd.C_below UA.out.2.2 (below_alloc (Below.refl _ _) _)); rintro e_ wB ⟨vB, vC, rfl, ho, hp, hb⟩; obtain ⟨As, cs, rfl⟩ := Kd.R_slice ho; obtain ⟨Asp, csp, rfl⟩ := Kd.R_slice hp; have CB : Aside0 (Cy w wB (boxL A0 A1 B2 B3 A4 m.length n1 ops.length more.length ps.length c0 c1 d2 d3 c4 o0 o1 o2 o3 b q1 q2 kk hh) [⟨As, cs, gl⟩, ⟨Ar, cr, fl⟩, ⟨Aq, cq, pl⟩, ⟨Ap, cp, pl⟩, ⟨An, cn, nl⟩, ⟨Af, cf, fl⟩] [⟨g21, p0, p1, p2, Arp, crp, pp⟩, ⟨g20, true, 0, hh, Aqp, cqp, ([] : List S51)⟩, ⟨g19, p0, p1, p2, App, cpp, pp⟩, ⟨g16, z0, z1, z2, Anp, cnp, np⟩]) := ⟨by first | exact (CA.out.below hb).row (Kd.R_mono (Kd.R_lower ho CA.out.bel.size) (fun _ _ => trivial)) | exact ((CA.out.alloc _).below hb).row (Kd.R_mono (Kd.R_lower ho (CA.out.alloc _).bel.size) (fun _ _ => trivial))⟩; (first | (have TB : Aside0 (wB.heap[W22.heap.size]? = some (.cells #[.bool false, .int .i64 0, .int .i64 0, .slice none 0 0] 27 (0, 0))) := ⟨blk_below TA.out hb⟩; have NB : Aside0 (w.heap.size ≠ W22.heap.size) := ⟨Nat.ne_of_lt (blk_lt C.out.box)⟩; have LB : Aside0 (w.heap.size ≤ W22.heap.size ∧ ∀ q ∈ ([⟨g21, p0, p1, p2, Arp, crp, pp⟩, ⟨g20, true, 0, hh, Aqp, cqp, ([] : List S51)⟩, ⟨g19, p0, p1, p2, App, cpp, pp⟩, ⟨g16, z0, z1, z2, Anp, cnp, np⟩] : List Ans), q.g < W22.heap.size) := ⟨C.out.bel.size, C.out.lt⟩; obtain ⟨t50, t51, t52, t53⟩ := ans4 (b := false) (x := 0) (y := 0) (v := .slice none 0 0) TB.out; obtain ⟨f50, f51, f52, f53⟩ := ans_froz TB.out) | (have TB : Aside0 (wB.heap[wA.heap.size]? = some (.cells #[.bool false, .int .i64 0, .int .i64 0, .slice none 0 0] 27 (0, 0))) := ⟨blk_below (blk_new wA _) hb⟩; have NB : Aside0 (w.heap.size ≠ wA.heap.size) := ⟨Nat.ne_of_lt (blk_lt CA.out.box)⟩; have LB : Aside0 (w.heap.size ≤ wA.heap.size ∧ ∀ q ∈ ([⟨g21, p0, p1, p2, Arp, crp, pp⟩, ⟨g20, true, 0, hh, Aqp, cqp, ([] : List S51)⟩, ⟨g19, p0, p1, p2, App, cpp, pp⟩, ⟨g16, z0, z1, z2, Anp, cnp, np⟩] : List Ans), q.g < wA.heap.size) := ⟨CA.out.bel.size, CA.out.lt⟩; obtain ⟨t50, t51, t52, t53⟩ := ans4 (b := false) (x := 0) (y := 0) (v := .slice none 0 0) TB.out; obtain ⟨f50, f51, f52, f53⟩ := ans_froz TB.out) | (have TB : Aside0 True := ⟨trivial⟩)); have PB : Aside0 (Kd.R k51 51 wB w.heap.size (fun _ => True) (.slice Asp ([] : List S51).length csp) ([] : List S51)) := ⟨Kd.R_mono (Kd.R_lower hp (by first | exact CA.out.bel.size | exact (CA.out.alloc _).bel.size)) (fun _ _ => trivial)⟩; clear ho hp hb))
    all_goals rw [HQ0.out]
    all_goals refine ⟨rfl, As, cs, Asp, csp, ?_⟩
    · (repeat apply Exists.intro)
      refine ⟨by (try simp only [puts, List.foldl, Act.put, List.setIfInBounds_toArray, List.set_cons_zero, List.set_cons_succ]); rfl, ?_⟩
      exact CB.out.fresh PB.out
    · (repeat apply Exists.intro)
      refine ⟨by (try simp only [puts, List.foldl, Act.put, List.setIfInBounds_toArray, List.set_cons_zero, List.set_cons_succ]); rfl, ?_⟩
      exact CB.out.filled TB.out NB.out LB.out.1 LB.out.2 PB.out
    · (repeat apply Exists.intro)
      refine ⟨by (try simp only [puts, List.foldl, Act.put, List.setIfInBounds_toArray, List.set_cons_zero, List.set_cons_succ]); rfl, ?_⟩
      exact CB.out.filled TB.out NB.out LB.out.1 LB.out.2 PB.out
  rw [HQ0.out]
  rintro e_ a_ W23 ⟨rfl, As, cs, Asp, csp, g22, u194, u195, u196, u197, u198, u199, u200, u201, u202, u203, rfl, hC⟩
  clear C HQ0
  have C := Aside0.mk hC
  refine hKK _ _ ?_
  clear hKK hC
  subst hF
  simp only [puts, List.foldl, Act.put, List.setIfInBounds_toArray, List.set_cons_zero, List.set_cons_succ]
  as_aux_lemma =>
  refine wp_seq_k fun KK hKK => ?_
  refine wp_named fun F hF => ?_
  obtain ⟨Q0, hQ0⟩ : ∃ Q0 : Exit → Act → World → Prop, Q0 = (fun (e : Exit) (a' : Act) (W : World) => e = .normal ∧ ∃ (At : Option Addr) (ct : Nat) (Atp : Option Addr) (ctp : Nat) (g23 : Nat) (u204 u205 u206 u207 u208 u209 u210 u211 u212 u213 : Value), a' = puts F [(26, .slice At gl.length ct), (27, .pointer (some ⟨g23, 0, none⟩)), (28, .int .i64 0), (204, u204), (205, u205), (206, u206), (207, u207), (208, u208), (209, u209), (210, u210), (211, u211), (212, u212), (213, u213)] ∧ (Cy w W (boxL A0 A1 B2 B3 A4 m.length n1 ops.length more.length ps.length c0 c1 d2 d3 c4 o0 o1 o2 o3 b q1 q2 kk hh) [⟨At, ct, gl⟩, ⟨As, cs, gl⟩, ⟨Ar, cr, fl⟩, ⟨Aq, cq, pl⟩, ⟨Ap, cp, pl⟩, ⟨An, cn, nl⟩, ⟨Af, cf, fl⟩] [⟨g23, false, 0, 0, Atp, ctp, ([] : List S51)⟩, ⟨g22, true, 0, hh, Asp, csp, ([] : List S51)⟩, ⟨g21, p0, p1, p2, Arp, crp, pp⟩, ⟨g20, true, 0, hh, Aqp, cqp, ([] : List S51)⟩, ⟨g19, p0, p1, p2, App, cpp, pp⟩, ⟨g16, z0, z1, z2, Anp, cnp, np⟩])) := ⟨_, rfl⟩
  have HQ0 := Aside0.mk hQ0
  clear hQ0
  refine Code.wp_mono (Q := Q0) ?tail23 ?walk23
  case walk23 => as_aux_lemma =>
    subst hF
    clear hKK
    go_region_held3 (fun W' => W'.cell? ⟨w.heap.size, 12, none⟩ = some (.int .i64 kk)) (first | (with_reducible exact (boxp12 C.out.box)) | (with_reducible exact (boxp12 C.out.drew.box)) | (with_reducible exact (boxp12 (C.out.drew.alloc _).box)) | (with_reducible exact (boxp12 (C.out.alloc _).drew.box)) | (with_reducible exact (boxp12 CA.out.box)) | (with_reducible exact (boxp12 (CA.out.alloc _).box)) | (with_reducible exact (boxp12 CB.out.box)) | (with_reducible exact (boxp12 (CB.out.alloc _).box)) | exact boxp12 (blk_ret CB.out.box NB.out) | exact (boxp12 (C.out.drew.alloc _).box)) (first
      | (go_at_call 10; (with_reducible refine (larchlaw06_copied.calls As cs gl gl _ ?s1 ?s2 (copied_f gl HF.out.small_gl)).mono ?_); (case s1 => first | exact (C.out.drew.rowC (A := As) (c := cs) (l := gl) (by simp)).1 | exact ((C.out.drew.alloc _).rowC (A := As) (c := cs) (l := gl) (by simp)).1 | exact (C.out.rowC (A := As) (c := cs) (l := gl) (by simp)).1); (case s2 => exact (C.out.rowC (A := As) (c := cs) (l := gl) (by simp)).2); rintro e_ wA ⟨vA, rfl, ho, hb⟩; obtain ⟨Ax, cx, rfl⟩ := Kd.R_slice ho; have CA : Aside0 (Cy w wA (boxL A0 A1 B2 B3 A4 m.length n1 ops.length more.length ps.length c0 c1 d2 d3 c4 o0 o1 o2 o3 b q1 q2 kk hh) [⟨As, cs, gl⟩, ⟨Ar, cr, fl⟩, ⟨Aq, cq, pl⟩, ⟨Ap, cp, pl⟩, ⟨An, cn, nl⟩, ⟨Af, cf, fl⟩] [⟨g22, true, 0, hh, Asp, csp, ([] : List S51)⟩, ⟨g21, p0, p1, p2, Arp, crp, pp⟩, ⟨g20, true, 0, hh, Aqp, cqp, ([] : List S51)⟩, ⟨g19, p0, p1, p2, App, cpp, pp⟩, ⟨g16, z0, z1, z2, Anp, cnp, np⟩]) := ⟨by first | exact C.out.drew.below hb | exact (C.out.drew.alloc _).below hb | exact C.out.below hb⟩; (first | (have TA : Aside0 (wA.heap[W23.heap.size]? = some (.cells #[.bool false, .int .i64 0, .int .i64 0, .slice none 0 0] 27 (0, 0))) := ⟨blk_below (blk_new W23.drew _) hb⟩) | (have TA : Aside0 True := ⟨trivial⟩)); have UA := Aside0.mk (Kd.R_reads' ho); clear ho hb)
      | (go_at_call 9; (with_reducible refine (model_Do.calls Ax cx gl 1 kk 0 0 gl false 0 0 ([] : List S51) 0 _ ?s1 UA.out.2.1 HF.out.do23).mono ?_); (case s1 => first | exact UA.out.2.2 | exact Kd.C_below UA.out.2.2 (below_alloc (Below.refl _ _) _)); rintro e_ wB ⟨vB, vC, rfl, ho, hp, hb⟩; obtain ⟨At, ct, rfl⟩ := Kd.R_slice ho; obtain ⟨Atp, ctp, rfl⟩ := Kd.R_slice hp; have CB : Aside0 (Cy w wB (boxL A0 A1 B2 B3 A4 m.length n1 ops.length more.length ps.length c0 c1 d2 d3 c4 o0 o1 o2 o3 b q1 q2 kk hh) [⟨At, ct, gl⟩, ⟨As, cs, gl⟩, ⟨Ar, cr, fl⟩, ⟨Aq, cq, pl⟩, ⟨Ap, cp, pl⟩, ⟨An, cn, nl⟩, ⟨Af, cf, fl⟩] [⟨g22, true, 0, hh, Asp, csp, ([] : List S51)⟩, ⟨g21, p0, p1, p2, Arp, crp, pp⟩, ⟨g20, true, 0, hh, Aqp, cqp, ([] : List S51)⟩, ⟨g19, p0, p1, p2, App, cpp, pp⟩, ⟨g16, z0, z1, z2, Anp, cnp, np⟩]) := ⟨by first | exact (CA.out.below hb).row (Kd.R_mono (Kd.R_lower ho CA.out.bel.size) (fun _ _ => trivial)) | exact ((CA.out.alloc _).below hb).row (Kd.R_mono (Kd.R_lower ho (CA.out.alloc _).bel.size) (fun _ _ => trivial))⟩; (first | (have TB : Aside0 (wB.heap[W23.heap.size]? = some (.cells #[.bool false, .int .i64 0, .int .i64 0, .slice none 0 0] 27 (0, 0))) := ⟨blk_below TA.out hb⟩; have NB : Aside0 (w.heap.size ≠ W23.heap.size) := ⟨Nat.ne_of_lt (blk_lt C.out.box)⟩; have LB : Aside0 (w.heap.size ≤ W23.heap.size ∧ ∀ q ∈ ([⟨g22, true, 0, hh, Asp, csp, ([] : List S51)⟩, ⟨g21, p0, p1, p2, Arp, crp, pp⟩, ⟨g20, true, 0, hh, Aqp, cqp, ([] : List S51)⟩, ⟨g19, p0, p1, p2, App, cpp, pp⟩, ⟨g16, z0, z1, z2, Anp, cnp, np⟩] : List Ans), q.g < W23.heap.size) := ⟨C.out.bel.size, C.out.lt⟩; obtain ⟨t50, t51, t52, t53⟩ := ans4 (b := false) (x := 0) (y := 0) (v := .slice none 0 0) TB.out; obtain ⟨f50, f51, f52, f53⟩ := ans_froz TB.out) | (have TB : Aside0 (wB.heap[wA.heap.size]? = some (.cells #[.bool false, .int .i64 0, .int .i64 0, .slice none 0 0] 27 (0, 0))) := ⟨blk_below (blk_new wA _) hb⟩; have NB : Aside0 (w.heap.size ≠ wA.heap.size) := ⟨Nat.ne_of_lt (blk_lt CA.out.box)⟩; have LB : Aside0 (w.heap.size ≤ wA.heap.size ∧ ∀ q ∈ ([⟨g22, true, 0, hh, Asp, csp, ([] : List S51)⟩, ⟨g21, p0, p1, p2, Arp, crp, pp⟩, ⟨g20, true, 0, hh, Aqp, cqp, ([] : List S51)⟩, ⟨g19, p0, p1, p2, App, cpp, pp⟩, ⟨g16, z0, z1, z2, Anp, cnp, np⟩] : List Ans), q.g < wA.heap.size) := ⟨CA.out.bel.size, CA.out.lt⟩; obtain ⟨t50, t51, t52, t53⟩ := ans4 (b := false) (x := 0) (y := 0) (v := .slice none 0 0) TB.out; obtain ⟨f50, f51, f52, f53⟩ := ans_froz TB.out) | (have TB : Aside0 True := ⟨trivial⟩)); have PB : Aside0 (Kd.R k51 51 wB w.heap.size (fun _ => True) (.slice Atp ([] : List S51).length ctp) ([] : List S51)) := ⟨Kd.R_mono (Kd.R_lower hp (by first | exact CA.out.bel.size | exact (CA.out.alloc _).bel.size)) (fun _ _ => trivial)⟩; clear ho hp hb))
    all_goals rw [HQ0.out]
    all_goals refine ⟨rfl, At, ct, Atp, ctp, ?_⟩
    · (repeat apply Exists.intro)
      refine ⟨by (try simp only [puts, List.foldl, Act.put, List.setIfInBounds_toArray, List.set_cons_zero, List.set_cons_succ]); rfl, ?_⟩
      exact CB.out.fresh PB.out
    · (repeat apply Exists.intro)
      refine ⟨by (try simp only [puts, List.foldl, Act.put, List.setIfInBounds_toArray, List.set_cons_zero, List.set_cons_succ]); rfl, ?_⟩
      exact CB.out.filled TB.out NB.out LB.out.1 LB.out.2 PB.out
    · (repeat apply Exists.intro)
      refine ⟨by (try simp only [puts, List.foldl, Act.put, List.setIfInBounds_toArray, List.set_cons_zero, List.set_cons_succ]); rfl, ?_⟩
      exact CB.out.filled TB.out NB.out LB.out.1 LB.out.2 PB.out
  rw [HQ0.out]
  rintro e_ a_ W24 ⟨rfl, At, ct, Atp, ctp, g23, u204, u205, u206, u207, u208, u209, u210, u211, u212, u213, rfl, hC⟩
  clear C HQ0
  have C := Aside0.mk hC
  refine hKK _ _ ?_
  clear hKK hC
  subst hF
  simp only [puts, List.foldl, Act.put, List.setIfInBounds_toArray, List.set_cons_zero, List.set_cons_succ]
  as_aux_lemma =>
  refine wp_seq_k fun KK hKK => ?_
  refine wp_named fun F hF => ?_
  obtain ⟨Q0, hQ0⟩ : ∃ Q0 : Exit → Act → World → Prop, Q0 = (fun (e : Exit) (a' : Act) (W : World) => e = .normal ∧ ∃ (u214 u215 u216 u217 u218 u219 u220 u221 u222 u223 u224 u225 u226 u227 u228 u229 u230 u231 u232 u233 u234 u235 u236 u237 u238 u239 u240 u241 u242 u243 u244 u245 u246 u247 u248 u249 u250 u251 u252 u253 u254 u255 u256 u257 u258 u259 u260 u261 u262 u263 u264 u265 u266 u267 u268 u269 u270 u271 u272 : Value), a' = puts F [(214, u214), (215, u215), (216, u216), (217, u217), (218, u218), (219, u219), (220, u220), (221, u221), (222, u222), (223, u223), (224, u224), (225, u225), (226, u226), (227, u227), (228, u228), (229, u229), (230, u230), (231, u231), (232, u232), (233, u233), (234, u234), (235, u235), (236, u236), (237, u237), (238, u238), (239, u239), (240, u240), (241, u241), (242, u242), (243, u243), (244, u244), (245, u245), (246, u246), (247, u247), (248, u248), (249, u249), (250, u250), (251, u251), (252, u252), (253, u253), (254, u254), (255, u255), (256, u256), (257, u257), (258, u258), (259, u259), (260, u260), (261, u261), (262, u262), (263, u263), (264, u264), (265, u265), (266, u266), (267, u267), (268, u268), (269, u269), (270, u270), (271, u271), (272, u272), (273, .bool false)] ∧ (Cy w W (boxL A0 A1 B2 B3 A4 m.length n1 ops.length more.length ps.length c0 c1 d2 d3 c4 o0 o1 o2 o3 b q1 q2 kk hh) [⟨At, ct, gl⟩, ⟨As, cs, gl⟩, ⟨Ar, cr, fl⟩, ⟨Aq, cq, pl⟩, ⟨Ap, cp, pl⟩, ⟨An, cn, nl⟩, ⟨Af, cf, fl⟩] [⟨g23, false, 0, 0, Atp, ctp, ([] : List S51)⟩, ⟨g22, true, 0, hh, Asp, csp, ([] : List S51)⟩, ⟨g21, p0, p1, p2, Arp, crp, pp⟩, ⟨g20, true, 0, hh, Aqp, cqp, ([] : List S51)⟩, ⟨g19, p0, p1, p2, App, cpp, pp⟩, ⟨g16, z0, z1, z2, Anp, cnp, np⟩])) := ⟨_, rfl⟩
  have HQ0 := Aside0.mk hQ0
  clear hQ0
  refine Code.wp_mono (Q := Q0) ?tail24 ?walk24
  case walk24 => as_aux_lemma =>
    subst hF
    clear hKK
    obtain ⟨y12, y13⟩ := boxp12_13 C.out.box
    obtain ⟨a0, a1, a2, a3⟩ := C.out.ans (g := g19) (q0 := p0) (q1 := p1) (q2 := p2) (A := App) (c := cpp) (ps := pp) (by simp)
    obtain ⟨b0, b1, b2, b3⟩ := C.out.ans (g := g20) (q0 := true) (q1 := 0) (q2 := hh) (A := Aqp) (c := cqp) (ps := ([] : List S51)) (by simp)
    obtain ⟨c0', c1', c2', c3'⟩ := C.out.ans (g := g21) (q0 := p0) (q1 := p1) (q2 := p2) (A := Arp) (c := crp) (ps := pp) (by simp)
    obtain ⟨d0, d1, d2', d3'⟩ := C.out.ans (g := g22) (q0 := true) (q1 := 0) (q2 := hh) (A := Asp) (c := csp) (ps := ([] : List S51)) (by simp)
    obtain ⟨e0, e1, e2, e3⟩ := C.out.ans (g := g23) (q0 := false) (q1 := 0) (q2 := 0) (A := Atp) (c := ctp) (ps := ([] : List S51)) (by simp)
    have hlen := HF.out.len
    have hsm := HF.out.small_pl
    have hwr : IntKind.i64.wrap ((pl.length : Int) - 1) = (gl.length : Int) := by rw [hlen]; exact IntWalk.i64_in _ (by omega)
    clear hlen hsm
    go_wp2_with (first
      | (go_at_call 13; (with_reducible refine (larchref06_SameRet.calls k p0 p1 p2 App cpp pp p0 p1 p2 Arp crp pp true W24 (C.out.ansC (g := g19) (q0 := p0) (q1 := p1) (q2 := p2) (A := App) (c := cpp) (ps := pp) (by simp)).1 (C.out.ansC (g := g19) (q0 := p0) (q1 := p1) (q2 := p2) (A := App) (c := cpp) (ps := pp) (by simp)).2 (C.out.ansC (g := g21) (q0 := p0) (q1 := p1) (q2 := p2) (A := Arp) (c := crp) (ps := pp) (by simp)).1 (C.out.ansC (g := g21) (q0 := p0) (q1 := p1) (q2 := p2) (A := Arp) (c := crp) (ps := pp) (by simp)).2 HF.out.sret).mono ?_); rintro e_ wA ⟨rfl, hb⟩; have CA := Aside0.mk (C.out.below hb); clear hb y12 y13 a0 a1 a2 a3 b0 b1 b2 b3 c0' c1' c2' c3' d0 d1 d2' d3' e0 e1 e2 e3; obtain ⟨y12, y13⟩ := boxp12_13 CA.out.box; obtain ⟨z50, z51, z52, z53⟩ := CA.out.ans (g := g22) (q0 := true) (q1 := 0) (q2 := hh) (A := Asp) (c := csp) (ps := ([] : List S51)) (by simp); obtain ⟨z60, z61, z62, z63⟩ := CA.out.ans (g := g23) (q0 := false) (q1 := 0) (q2 := 0) (A := Atp) (c := ctp) (ps := ([] : List S51)) (by simp)))
    rw [HQ0.out]
    refine ⟨rfl, ?_⟩
    (repeat apply Exists.intro)
    refine ⟨by (try simp only [puts, List.foldl, Act.put, List.setIfInBounds_toArray, List.set_cons_zero, List.set_cons_succ]); (try rfl), ?_⟩
    exact CA.out
  rw [HQ0.out]
  rintro e_ a_ W26 ⟨rfl, u214, u215, u216, u217, u218, u219, u220, u221, u222, u223, u224, u225, u226, u227, u228, u229, u230, u231, u232, u233, u234, u235, u236, u237, u238, u239, u240, u241, u242, u243, u244, u245, u246, u247, u248, u249, u250, u251, u252, u253, u254, u255, u256, u257, u258, u259, u260, u261, u262, u263, u264, u265, u266, u267, u268, u269, u270, u271, u272, rfl, hC⟩
  clear C HQ0
  have C := Aside0.mk hC
  refine hKK _ _ ?_
  clear hKK hC
  subst hF
  simp only [puts, List.foldl, Act.put, List.setIfInBounds_toArray, List.set_cons_zero, List.set_cons_succ]
  as_aux_lemma =>
  refine wp_seq_k fun KK hKK => ?_
  refine wp_named fun F hF => ?_
  obtain ⟨Q0, hQ0⟩ : ∃ Q0 : Exit → Act → World → Prop, Q0 = (fun (e : Exit) (a' : Act) (W : World) => e = .normal ∧ a' = puts F [(29, .int .i64 (-9223372036854775808))] ∧ (Cy w W (boxL A0 A1 B2 B3 A4 m.length n1 ops.length more.length ps.length c0 c1 d2 d3 c4 o0 o1 o2 o3 b q1 q2 kk hh) [⟨At, ct, gl⟩, ⟨As, cs, gl⟩, ⟨Ar, cr, fl⟩, ⟨Aq, cq, pl⟩, ⟨Ap, cp, pl⟩, ⟨An, cn, nl⟩, ⟨Af, cf, fl⟩] [⟨g23, false, 0, 0, Atp, ctp, ([] : List S51)⟩, ⟨g22, true, 0, hh, Asp, csp, ([] : List S51)⟩, ⟨g21, p0, p1, p2, Arp, crp, pp⟩, ⟨g20, true, 0, hh, Aqp, cqp, ([] : List S51)⟩, ⟨g19, p0, p1, p2, App, cpp, pp⟩, ⟨g16, z0, z1, z2, Anp, cnp, np⟩])) := ⟨_, rfl⟩
  have HQ0 := Aside0.mk hQ0
  clear hQ0
  refine Code.wp_mono (Q := Q0) ?tail26 ?walk26
  case walk26 => as_aux_lemma =>
    subst hF
    clear hKK
    go_wp2
    rw [HQ0.out]
    refine ⟨rfl, ?_⟩
    (repeat apply Exists.intro)
    refine ⟨by (try simp only [puts, List.foldl, Act.put, List.setIfInBounds_toArray, List.set_cons_zero, List.set_cons_succ]); (try rfl), ?_⟩
    exact C.out
  rw [HQ0.out]
  rintro e_ a_ W27 ⟨rfl, rfl, hC⟩
  clear C HQ0
  have C := Aside0.mk hC
  refine hKK _ _ ?_
  clear hKK hC
  subst hF
  simp only [puts, List.foldl, Act.put, List.setIfInBounds_toArray, List.set_cons_zero, List.set_cons_succ]
  as_aux_lemma =>
  refine wp_seq_k fun KK hKK => ?_
  refine wp_named fun F hF => ?_
  obtain ⟨Q0, hQ0⟩ : ∃ Q0 : Exit → Act → World → Prop, Q0 = (fun (e : Exit) (a' : Act) (W : World) => e = .normal ∧ ∃ (Awn : Option Addr) (cwn : Nat) (Awp : Option Addr) (cwp : Nat) (g27 : Nat) (u274 u275 u276 u277 u278 u279 u280 u281 u282 : Value), a' = puts F [(7, .int .i64 0), (30, .slice Awn fl.length cwn), (31, .pointer (some ⟨g27, 0, none⟩)), (274, u274), (275, u275), (276, u276), (277, u277), (278, u278), (279, u279), (280, u280), (281, u281), (282, u282)] ∧ (Cy w W (boxL A0 A1 B2 B3 A4 m.length n1 ops.length more.length ps.length c0 c1 d2 d3 c4 o0 o1 o2 o3 b q1 q2 kk hh) [⟨Awn, cwn, fl⟩, ⟨At, ct, gl⟩, ⟨As, cs, gl⟩, ⟨Ar, cr, fl⟩, ⟨Aq, cq, pl⟩, ⟨Ap, cp, pl⟩, ⟨An, cn, nl⟩, ⟨Af, cf, fl⟩] [⟨g27, true, 0, 0, Awp, cwp, wp⟩, ⟨g23, false, 0, 0, Atp, ctp, ([] : List S51)⟩, ⟨g22, true, 0, hh, Asp, csp, ([] : List S51)⟩, ⟨g21, p0, p1, p2, Arp, crp, pp⟩, ⟨g20, true, 0, hh, Aqp, cqp, ([] : List S51)⟩, ⟨g19, p0, p1, p2, App, cpp, pp⟩, ⟨g16, z0, z1, z2, Anp, cnp, np⟩])) := ⟨_, rfl⟩
  have HQ0 := Aside0.mk hQ0
  clear hQ0
  refine Code.wp_mono (Q := Q0) ?tail27 ?walk27
  case walk27 => as_aux_lemma =>
    subst hF
    clear hKK
    go_wp2_with (first
      | (go_at_call 10; (with_reducible refine (larchlaw06_copied.calls Af cf fl fl _ ?s1 ?s2 (copied_f fl HF.out.small_fl)).mono ?_); (case s1 => first | exact (C.out.drew.rowC (A := Af) (c := cf) (l := fl) (by simp)).1 | exact ((C.out.drew.alloc _).rowC (A := Af) (c := cf) (l := fl) (by simp)).1 | exact (C.out.rowC (A := Af) (c := cf) (l := fl) (by simp)).1); (case s2 => exact (C.out.rowC (A := Af) (c := cf) (l := fl) (by simp)).2); rintro e_ wA ⟨vA, rfl, ho, hb⟩; obtain ⟨Ax, cx, rfl⟩ := Kd.R_slice ho; have CA : Aside0 (Cy w wA (boxL A0 A1 B2 B3 A4 m.length n1 ops.length more.length ps.length c0 c1 d2 d3 c4 o0 o1 o2 o3 b q1 q2 kk hh) [⟨At, ct, gl⟩, ⟨As, cs, gl⟩, ⟨Ar, cr, fl⟩, ⟨Aq, cq, pl⟩, ⟨Ap, cp, pl⟩, ⟨An, cn, nl⟩, ⟨Af, cf, fl⟩] [⟨g23, false, 0, 0, Atp, ctp, ([] : List S51)⟩, ⟨g22, true, 0, hh, Asp, csp, ([] : List S51)⟩, ⟨g21, p0, p1, p2, Arp, crp, pp⟩, ⟨g20, true, 0, hh, Aqp, cqp, ([] : List S51)⟩, ⟨g19, p0, p1, p2, App, cpp, pp⟩, ⟨g16, z0, z1, z2, Anp, cnp, np⟩]) := ⟨by first | exact C.out.drew.below hb | exact (C.out.drew.alloc _).below hb | exact C.out.below hb⟩; (first | (have TA : Aside0 (wA.heap[W27.heap.size]? = some (.cells #[.bool false, .int .i64 0, .int .i64 0, .slice none 0 0] 27 (0, 0))) := ⟨blk_below (blk_new W27.drew _) hb⟩) | (have TA : Aside0 True := ⟨trivial⟩)); have UA := Aside0.mk (Kd.R_reads' ho); clear ho hb)
      | (go_at_call 9; (with_reducible refine (model_Do.calls Ax cx fl 9 (-9223372036854775808) 0 9223372036854775807 fl true 0 0 wp 0 _ ?s1 UA.out.2.1 HF.out.do27).mono ?_); (case s1 => first | exact UA.out.2.2 | exact Kd.C_below UA.out.2.2 (below_alloc (Below.refl _ _) _)); rintro e_ wB ⟨vB, vC, rfl, ho, hp, hb⟩; obtain ⟨Awn, cwn, rfl⟩ := Kd.R_slice ho; obtain ⟨Awp, cwp, rfl⟩ := Kd.R_slice hp; have CB : Aside0 (Cy w wB (boxL A0 A1 B2 B3 A4 m.length n1 ops.length more.length ps.length c0 c1 d2 d3 c4 o0 o1 o2 o3 b q1 q2 kk hh) [⟨Awn, cwn, fl⟩, ⟨At, ct, gl⟩, ⟨As, cs, gl⟩, ⟨Ar, cr, fl⟩, ⟨Aq, cq, pl⟩, ⟨Ap, cp, pl⟩, ⟨An, cn, nl⟩, ⟨Af, cf, fl⟩] [⟨g23, false, 0, 0, Atp, ctp, ([] : List S51)⟩, ⟨g22, true, 0, hh, Asp, csp, ([] : List S51)⟩, ⟨g21, p0, p1, p2, Arp, crp, pp⟩, ⟨g20, true, 0, hh, Aqp, cqp, ([] : List S51)⟩, ⟨g19, p0, p1, p2, App, cpp, pp⟩, ⟨g16, z0, z1, z2, Anp, cnp, np⟩]) := ⟨by first | exact (CA.out.below hb).row (Kd.R_mono (Kd.R_lower ho CA.out.bel.size) (fun _ _ => trivial)) | exact ((CA.out.alloc _).below hb).row (Kd.R_mono (Kd.R_lower ho (CA.out.alloc _).bel.size) (fun _ _ => trivial))⟩; (first | (have TB : Aside0 (wB.heap[W27.heap.size]? = some (.cells #[.bool false, .int .i64 0, .int .i64 0, .slice none 0 0] 27 (0, 0))) := ⟨blk_below TA.out hb⟩; have NB : Aside0 (w.heap.size ≠ W27.heap.size) := ⟨Nat.ne_of_lt (blk_lt C.out.box)⟩; have LB : Aside0 (w.heap.size ≤ W27.heap.size ∧ ∀ q ∈ ([⟨g23, false, 0, 0, Atp, ctp, ([] : List S51)⟩, ⟨g22, true, 0, hh, Asp, csp, ([] : List S51)⟩, ⟨g21, p0, p1, p2, Arp, crp, pp⟩, ⟨g20, true, 0, hh, Aqp, cqp, ([] : List S51)⟩, ⟨g19, p0, p1, p2, App, cpp, pp⟩, ⟨g16, z0, z1, z2, Anp, cnp, np⟩] : List Ans), q.g < W27.heap.size) := ⟨C.out.bel.size, C.out.lt⟩; obtain ⟨t50, t51, t52, t53⟩ := ans4 (b := false) (x := 0) (y := 0) (v := .slice none 0 0) TB.out; obtain ⟨f50, f51, f52, f53⟩ := ans_froz TB.out) | (have TB : Aside0 (wB.heap[wA.heap.size]? = some (.cells #[.bool false, .int .i64 0, .int .i64 0, .slice none 0 0] 27 (0, 0))) := ⟨blk_below (blk_new wA _) hb⟩; have NB : Aside0 (w.heap.size ≠ wA.heap.size) := ⟨Nat.ne_of_lt (blk_lt CA.out.box)⟩; have LB : Aside0 (w.heap.size ≤ wA.heap.size ∧ ∀ q ∈ ([⟨g23, false, 0, 0, Atp, ctp, ([] : List S51)⟩, ⟨g22, true, 0, hh, Asp, csp, ([] : List S51)⟩, ⟨g21, p0, p1, p2, Arp, crp, pp⟩, ⟨g20, true, 0, hh, Aqp, cqp, ([] : List S51)⟩, ⟨g19, p0, p1, p2, App, cpp, pp⟩, ⟨g16, z0, z1, z2, Anp, cnp, np⟩] : List Ans), q.g < wA.heap.size) := ⟨CA.out.bel.size, CA.out.lt⟩; obtain ⟨t50, t51, t52, t53⟩ := ans4 (b := false) (x := 0) (y := 0) (v := .slice none 0 0) TB.out; obtain ⟨f50, f51, f52, f53⟩ := ans_froz TB.out) | (have TB : Aside0 True := ⟨trivial⟩)); have PB : Aside0 (Kd.R k51 51 wB w.heap.size (fun _ => True) (.slice Awp wp.length cwp) wp) := ⟨Kd.R_mono (Kd.R_lower hp (by first | exact CA.out.bel.size | exact (CA.out.alloc _).bel.size)) (fun _ _ => trivial)⟩; clear ho hp hb))
    all_goals rw [HQ0.out]
    all_goals refine ⟨rfl, Awn, cwn, Awp, cwp, ?_⟩
    · (repeat apply Exists.intro)
      refine ⟨by (try simp only [puts, List.foldl, Act.put, List.setIfInBounds_toArray, List.set_cons_zero, List.set_cons_succ]); rfl, ?_⟩
      exact CB.out.fresh PB.out
  rw [HQ0.out]
  rintro e_ a_ W28 ⟨rfl, Awn, cwn, Awp, cwp, g27, u274, u275, u276, u277, u278, u279, u280, u281, u282, rfl, hC⟩
  clear C HQ0
  have C := Aside0.mk hC
  refine hKK _ _ ?_
  clear hKK hC
  subst hF
  simp only [puts, List.foldl, Act.put, List.setIfInBounds_toArray, List.set_cons_zero, List.set_cons_succ]
  as_aux_lemma =>
  refine wp_seq_k fun KK hKK => ?_
  refine wp_named fun F hF => ?_
  obtain ⟨Q0, hQ0⟩ : ∃ Q0 : Exit → Act → World → Prop, Q0 = (fun (e : Exit) (a' : Act) (W : World) => e = .normal ∧ ∃ (Aln : Option Addr) (cln : Nat) (Alp : Option Addr) (clp : Nat) (g28 : Nat) (u283 u284 u285 u286 u287 u288 u289 u290 : Value), a' = puts F [(10, .int .i64 0), (32, .slice Aln fl.length cln), (33, .pointer (some ⟨g28, 0, none⟩)), (283, u283), (284, u284), (285, u285), (286, u286), (287, u287), (288, u288), (289, u289), (290, u290)] ∧ (Cy w W (boxL A0 A1 B2 B3 A4 m.length n1 ops.length more.length ps.length c0 c1 d2 d3 c4 o0 o1 o2 o3 b q1 q2 kk hh) [⟨Aln, cln, fl⟩, ⟨Awn, cwn, fl⟩, ⟨At, ct, gl⟩, ⟨As, cs, gl⟩, ⟨Ar, cr, fl⟩, ⟨Aq, cq, pl⟩, ⟨Ap, cp, pl⟩, ⟨An, cn, nl⟩, ⟨Af, cf, fl⟩] [⟨g28, lw.f0, lw.f1, lw.f2, Alp, clp, lw.f3⟩, ⟨g27, true, 0, 0, Awp, cwp, wp⟩, ⟨g23, false, 0, 0, Atp, ctp, ([] : List S51)⟩, ⟨g22, true, 0, hh, Asp, csp, ([] : List S51)⟩, ⟨g21, p0, p1, p2, Arp, crp, pp⟩, ⟨g20, true, 0, hh, Aqp, cqp, ([] : List S51)⟩, ⟨g19, p0, p1, p2, App, cpp, pp⟩, ⟨g16, z0, z1, z2, Anp, cnp, np⟩])) := ⟨_, rfl⟩
  have HQ0 := Aside0.mk hQ0
  clear hQ0
  refine Code.wp_mono (Q := Q0) ?tail28 ?walk28
  case walk28 => as_aux_lemma =>
    subst hF
    clear hKK
    go_wp2_with (first
      | (go_at_call 10; (with_reducible refine (larchlaw06_copied.calls Af cf fl fl _ ?s1 ?s2 (copied_f fl HF.out.small_fl)).mono ?_); (case s1 => first | exact (C.out.drew.rowC (A := Af) (c := cf) (l := fl) (by simp)).1 | exact ((C.out.drew.alloc _).rowC (A := Af) (c := cf) (l := fl) (by simp)).1 | exact (C.out.rowC (A := Af) (c := cf) (l := fl) (by simp)).1); (case s2 => exact (C.out.rowC (A := Af) (c := cf) (l := fl) (by simp)).2); rintro e_ wA ⟨vA, rfl, ho, hb⟩; obtain ⟨Ax, cx, rfl⟩ := Kd.R_slice ho; have CA : Aside0 (Cy w wA (boxL A0 A1 B2 B3 A4 m.length n1 ops.length more.length ps.length c0 c1 d2 d3 c4 o0 o1 o2 o3 b q1 q2 kk hh) [⟨Awn, cwn, fl⟩, ⟨At, ct, gl⟩, ⟨As, cs, gl⟩, ⟨Ar, cr, fl⟩, ⟨Aq, cq, pl⟩, ⟨Ap, cp, pl⟩, ⟨An, cn, nl⟩, ⟨Af, cf, fl⟩] [⟨g27, true, 0, 0, Awp, cwp, wp⟩, ⟨g23, false, 0, 0, Atp, ctp, ([] : List S51)⟩, ⟨g22, true, 0, hh, Asp, csp, ([] : List S51)⟩, ⟨g21, p0, p1, p2, Arp, crp, pp⟩, ⟨g20, true, 0, hh, Aqp, cqp, ([] : List S51)⟩, ⟨g19, p0, p1, p2, App, cpp, pp⟩, ⟨g16, z0, z1, z2, Anp, cnp, np⟩]) := ⟨by first | exact C.out.drew.below hb | exact (C.out.drew.alloc _).below hb | exact C.out.below hb⟩; (first | (have TA : Aside0 (wA.heap[W28.heap.size]? = some (.cells #[.bool false, .int .i64 0, .int .i64 0, .slice none 0 0] 27 (0, 0))) := ⟨blk_below (blk_new W28.drew _) hb⟩) | (have TA : Aside0 True := ⟨trivial⟩)); have UA := Aside0.mk (Kd.R_reads' ho); clear ho hb)
      | (go_at_call 9; (with_reducible refine (model_Do.calls Ax cx fl 7 0 0 0 fl lw.f0 lw.f1 lw.f2 lw.f3 0 _ ?s1 UA.out.2.1 HF.out.do28).mono ?_); (case s1 => first | exact UA.out.2.2 | exact Kd.C_below UA.out.2.2 (below_alloc (Below.refl _ _) _)); rintro e_ wB ⟨vB, vC, rfl, ho, hp, hb⟩; obtain ⟨Aln, cln, rfl⟩ := Kd.R_slice ho; obtain ⟨Alp, clp, rfl⟩ := Kd.R_slice hp; have CB : Aside0 (Cy w wB (boxL A0 A1 B2 B3 A4 m.length n1 ops.length more.length ps.length c0 c1 d2 d3 c4 o0 o1 o2 o3 b q1 q2 kk hh) [⟨Aln, cln, fl⟩, ⟨Awn, cwn, fl⟩, ⟨At, ct, gl⟩, ⟨As, cs, gl⟩, ⟨Ar, cr, fl⟩, ⟨Aq, cq, pl⟩, ⟨Ap, cp, pl⟩, ⟨An, cn, nl⟩, ⟨Af, cf, fl⟩] [⟨g27, true, 0, 0, Awp, cwp, wp⟩, ⟨g23, false, 0, 0, Atp, ctp, ([] : List S51)⟩, ⟨g22, true, 0, hh, Asp, csp, ([] : List S51)⟩, ⟨g21, p0, p1, p2, Arp, crp, pp⟩, ⟨g20, true, 0, hh, Aqp, cqp, ([] : List S51)⟩, ⟨g19, p0, p1, p2, App, cpp, pp⟩, ⟨g16, z0, z1, z2, Anp, cnp, np⟩]) := ⟨by first | exact (CA.out.below hb).row (Kd.R_mono (Kd.R_lower ho CA.out.bel.size) (fun _ _ => trivial)) | exact ((CA.out.alloc _).below hb).row (Kd.R_mono (Kd.R_lower ho (CA.out.alloc _).bel.size) (fun _ _ => trivial))⟩; (first | (have TB : Aside0 (wB.heap[W28.heap.size]? = some (.cells #[.bool false, .int .i64 0, .int .i64 0, .slice none 0 0] 27 (0, 0))) := ⟨blk_below TA.out hb⟩; have NB : Aside0 (w.heap.size ≠ W28.heap.size) := ⟨Nat.ne_of_lt (blk_lt C.out.box)⟩; have LB : Aside0 (w.heap.size ≤ W28.heap.size ∧ ∀ q ∈ ([⟨g27, true, 0, 0, Awp, cwp, wp⟩, ⟨g23, false, 0, 0, Atp, ctp, ([] : List S51)⟩, ⟨g22, true, 0, hh, Asp, csp, ([] : List S51)⟩, ⟨g21, p0, p1, p2, Arp, crp, pp⟩, ⟨g20, true, 0, hh, Aqp, cqp, ([] : List S51)⟩, ⟨g19, p0, p1, p2, App, cpp, pp⟩, ⟨g16, z0, z1, z2, Anp, cnp, np⟩] : List Ans), q.g < W28.heap.size) := ⟨C.out.bel.size, C.out.lt⟩; obtain ⟨t50, t51, t52, t53⟩ := ans4 (b := false) (x := 0) (y := 0) (v := .slice none 0 0) TB.out; obtain ⟨f50, f51, f52, f53⟩ := ans_froz TB.out) | (have TB : Aside0 (wB.heap[wA.heap.size]? = some (.cells #[.bool false, .int .i64 0, .int .i64 0, .slice none 0 0] 27 (0, 0))) := ⟨blk_below (blk_new wA _) hb⟩; have NB : Aside0 (w.heap.size ≠ wA.heap.size) := ⟨Nat.ne_of_lt (blk_lt CA.out.box)⟩; have LB : Aside0 (w.heap.size ≤ wA.heap.size ∧ ∀ q ∈ ([⟨g27, true, 0, 0, Awp, cwp, wp⟩, ⟨g23, false, 0, 0, Atp, ctp, ([] : List S51)⟩, ⟨g22, true, 0, hh, Asp, csp, ([] : List S51)⟩, ⟨g21, p0, p1, p2, Arp, crp, pp⟩, ⟨g20, true, 0, hh, Aqp, cqp, ([] : List S51)⟩, ⟨g19, p0, p1, p2, App, cpp, pp⟩, ⟨g16, z0, z1, z2, Anp, cnp, np⟩] : List Ans), q.g < wA.heap.size) := ⟨CA.out.bel.size, CA.out.lt⟩; obtain ⟨t50, t51, t52, t53⟩ := ans4 (b := false) (x := 0) (y := 0) (v := .slice none 0 0) TB.out; obtain ⟨f50, f51, f52, f53⟩ := ans_froz TB.out) | (have TB : Aside0 True := ⟨trivial⟩)); have PB : Aside0 (Kd.R k51 51 wB w.heap.size (fun _ => True) (.slice Alp lw.f3.length clp) lw.f3) := ⟨Kd.R_mono (Kd.R_lower hp (by first | exact CA.out.bel.size | exact (CA.out.alloc _).bel.size)) (fun _ _ => trivial)⟩; clear ho hp hb))
    all_goals rw [HQ0.out]
    all_goals refine ⟨rfl, Aln, cln, Alp, clp, ?_⟩
    · (repeat apply Exists.intro)
      refine ⟨by (try simp only [puts, List.foldl, Act.put, List.setIfInBounds_toArray, List.set_cons_zero, List.set_cons_succ]); rfl, ?_⟩
      exact CB.out.fresh PB.out
  rw [HQ0.out]
  rintro e_ a_ W29 ⟨rfl, Aln, cln, Alp, clp, g28, u283, u284, u285, u286, u287, u288, u289, u290, rfl, hC⟩
  clear C HQ0
  have C := Aside0.mk hC
  refine hKK _ _ ?_
  clear hKK hC
  subst hF
  simp only [puts, List.foldl, Act.put, List.setIfInBounds_toArray, List.set_cons_zero, List.set_cons_succ]
  as_aux_lemma =>
  refine wp_seq_k fun KK hKK => ?_
  refine wp_named fun F hF => ?_
  obtain ⟨Q0, hQ0⟩ : ∃ Q0 : Exit → Act → World → Prop, Q0 = (fun (e : Exit) (a' : Act) (W : World) => e = .normal ∧ ∃ (Ahn : Option Addr) (chn : Nat) (Ahp : Option Addr) (chp : Nat) (g29 : Nat) (u291 u292 u293 u294 u295 u296 u297 u298 : Value), a' = puts F [(22, .int .i64 0), (34, .slice Ahn fl.length chn), (35, .pointer (some ⟨g29, 0, none⟩)), (291, u291), (292, u292), (293, u293), (294, u294), (295, u295), (296, u296), (297, u297), (298, u298)] ∧ (Cy w W (boxL A0 A1 B2 B3 A4 m.length n1 ops.length more.length ps.length c0 c1 d2 d3 c4 o0 o1 o2 o3 b q1 q2 kk hh) [⟨Ahn, chn, fl⟩, ⟨Aln, cln, fl⟩, ⟨Awn, cwn, fl⟩, ⟨At, ct, gl⟩, ⟨As, cs, gl⟩, ⟨Ar, cr, fl⟩, ⟨Aq, cq, pl⟩, ⟨Ap, cp, pl⟩, ⟨An, cn, nl⟩, ⟨Af, cf, fl⟩] [⟨g29, hg.f0, hg.f1, hg.f2, Ahp, chp, hg.f3⟩, ⟨g28, lw.f0, lw.f1, lw.f2, Alp, clp, lw.f3⟩, ⟨g27, true, 0, 0, Awp, cwp, wp⟩, ⟨g23, false, 0, 0, Atp, ctp, ([] : List S51)⟩, ⟨g22, true, 0, hh, Asp, csp, ([] : List S51)⟩, ⟨g21, p0, p1, p2, Arp, crp, pp⟩, ⟨g20, true, 0, hh, Aqp, cqp, ([] : List S51)⟩, ⟨g19, p0, p1, p2, App, cpp, pp⟩, ⟨g16, z0, z1, z2, Anp, cnp, np⟩])) := ⟨_, rfl⟩
  have HQ0 := Aside0.mk hQ0
  clear hQ0
  refine Code.wp_mono (Q := Q0) ?tail29 ?walk29
  case walk29 => as_aux_lemma =>
    subst hF
    clear hKK
    go_wp2_with (first
      | (go_at_call 10; (with_reducible refine (larchlaw06_copied.calls Af cf fl fl _ ?s1 ?s2 (copied_f fl HF.out.small_fl)).mono ?_); (case s1 => first | exact (C.out.drew.rowC (A := Af) (c := cf) (l := fl) (by simp)).1 | exact ((C.out.drew.alloc _).rowC (A := Af) (c := cf) (l := fl) (by simp)).1 | exact (C.out.rowC (A := Af) (c := cf) (l := fl) (by simp)).1); (case s2 => exact (C.out.rowC (A := Af) (c := cf) (l := fl) (by simp)).2); rintro e_ wA ⟨vA, rfl, ho, hb⟩; obtain ⟨Ax, cx, rfl⟩ := Kd.R_slice ho; have CA : Aside0 (Cy w wA (boxL A0 A1 B2 B3 A4 m.length n1 ops.length more.length ps.length c0 c1 d2 d3 c4 o0 o1 o2 o3 b q1 q2 kk hh) [⟨Aln, cln, fl⟩, ⟨Awn, cwn, fl⟩, ⟨At, ct, gl⟩, ⟨As, cs, gl⟩, ⟨Ar, cr, fl⟩, ⟨Aq, cq, pl⟩, ⟨Ap, cp, pl⟩, ⟨An, cn, nl⟩, ⟨Af, cf, fl⟩] [⟨g28, lw.f0, lw.f1, lw.f2, Alp, clp, lw.f3⟩, ⟨g27, true, 0, 0, Awp, cwp, wp⟩, ⟨g23, false, 0, 0, Atp, ctp, ([] : List S51)⟩, ⟨g22, true, 0, hh, Asp, csp, ([] : List S51)⟩, ⟨g21, p0, p1, p2, Arp, crp, pp⟩, ⟨g20, true, 0, hh, Aqp, cqp, ([] : List S51)⟩, ⟨g19, p0, p1, p2, App, cpp, pp⟩, ⟨g16, z0, z1, z2, Anp, cnp, np⟩]) := ⟨by first | exact C.out.drew.below hb | exact (C.out.drew.alloc _).below hb | exact C.out.below hb⟩; (first | (have TA : Aside0 (wA.heap[W29.heap.size]? = some (.cells #[.bool false, .int .i64 0, .int .i64 0, .slice none 0 0] 27 (0, 0))) := ⟨blk_below (blk_new W29.drew _) hb⟩) | (have TA : Aside0 True := ⟨trivial⟩)); have UA := Aside0.mk (Kd.R_reads' ho); clear ho hb)
      | (go_at_call 9; (with_reducible refine (model_Do.calls Ax cx fl 8 0 0 0 fl hg.f0 hg.f1 hg.f2 hg.f3 0 _ ?s1 UA.out.2.1 HF.out.do29).mono ?_); (case s1 => first | exact UA.out.2.2 | exact Kd.C_below UA.out.2.2 (below_alloc (Below.refl _ _) _)); rintro e_ wB ⟨vB, vC, rfl, ho, hp, hb⟩; obtain ⟨Ahn, chn, rfl⟩ := Kd.R_slice ho; obtain ⟨Ahp, chp, rfl⟩ := Kd.R_slice hp; have CB : Aside0 (Cy w wB (boxL A0 A1 B2 B3 A4 m.length n1 ops.length more.length ps.length c0 c1 d2 d3 c4 o0 o1 o2 o3 b q1 q2 kk hh) [⟨Ahn, chn, fl⟩, ⟨Aln, cln, fl⟩, ⟨Awn, cwn, fl⟩, ⟨At, ct, gl⟩, ⟨As, cs, gl⟩, ⟨Ar, cr, fl⟩, ⟨Aq, cq, pl⟩, ⟨Ap, cp, pl⟩, ⟨An, cn, nl⟩, ⟨Af, cf, fl⟩] [⟨g28, lw.f0, lw.f1, lw.f2, Alp, clp, lw.f3⟩, ⟨g27, true, 0, 0, Awp, cwp, wp⟩, ⟨g23, false, 0, 0, Atp, ctp, ([] : List S51)⟩, ⟨g22, true, 0, hh, Asp, csp, ([] : List S51)⟩, ⟨g21, p0, p1, p2, Arp, crp, pp⟩, ⟨g20, true, 0, hh, Aqp, cqp, ([] : List S51)⟩, ⟨g19, p0, p1, p2, App, cpp, pp⟩, ⟨g16, z0, z1, z2, Anp, cnp, np⟩]) := ⟨by first | exact (CA.out.below hb).row (Kd.R_mono (Kd.R_lower ho CA.out.bel.size) (fun _ _ => trivial)) | exact ((CA.out.alloc _).below hb).row (Kd.R_mono (Kd.R_lower ho (CA.out.alloc _).bel.size) (fun _ _ => trivial))⟩; (first | (have TB : Aside0 (wB.heap[W29.heap.size]? = some (.cells #[.bool false, .int .i64 0, .int .i64 0, .slice none 0 0] 27 (0, 0))) := ⟨blk_below TA.out hb⟩; have NB : Aside0 (w.heap.size ≠ W29.heap.size) := ⟨Nat.ne_of_lt (blk_lt C.out.box)⟩; have LB : Aside0 (w.heap.size ≤ W29.heap.size ∧ ∀ q ∈ ([⟨g28, lw.f0, lw.f1, lw.f2, Alp, clp, lw.f3⟩, ⟨g27, true, 0, 0, Awp, cwp, wp⟩, ⟨g23, false, 0, 0, Atp, ctp, ([] : List S51)⟩, ⟨g22, true, 0, hh, Asp, csp, ([] : List S51)⟩, ⟨g21, p0, p1, p2, Arp, crp, pp⟩, ⟨g20, true, 0, hh, Aqp, cqp, ([] : List S51)⟩, ⟨g19, p0, p1, p2, App, cpp, pp⟩, ⟨g16, z0, z1, z2, Anp, cnp, np⟩] : List Ans), q.g < W29.heap.size) := ⟨C.out.bel.size, C.out.lt⟩; obtain ⟨t50, t51, t52, t53⟩ := ans4 (b := false) (x := 0) (y := 0) (v := .slice none 0 0) TB.out; obtain ⟨f50, f51, f52, f53⟩ := ans_froz TB.out) | (have TB : Aside0 (wB.heap[wA.heap.size]? = some (.cells #[.bool false, .int .i64 0, .int .i64 0, .slice none 0 0] 27 (0, 0))) := ⟨blk_below (blk_new wA _) hb⟩; have NB : Aside0 (w.heap.size ≠ wA.heap.size) := ⟨Nat.ne_of_lt (blk_lt CA.out.box)⟩; have LB : Aside0 (w.heap.size ≤ wA.heap.size ∧ ∀ q ∈ ([⟨g28, lw.f0, lw.f1, lw.f2, Alp, clp, lw.f3⟩, ⟨g27, true, 0, 0, Awp, cwp, wp⟩, ⟨g23, false, 0, 0, Atp, ctp, ([] : List S51)⟩, ⟨g22, true, 0, hh, Asp, csp, ([] : List S51)⟩, ⟨g21, p0, p1, p2, Arp, crp, pp⟩, ⟨g20, true, 0, hh, Aqp, cqp, ([] : List S51)⟩, ⟨g19, p0, p1, p2, App, cpp, pp⟩, ⟨g16, z0, z1, z2, Anp, cnp, np⟩] : List Ans), q.g < wA.heap.size) := ⟨CA.out.bel.size, CA.out.lt⟩; obtain ⟨t50, t51, t52, t53⟩ := ans4 (b := false) (x := 0) (y := 0) (v := .slice none 0 0) TB.out; obtain ⟨f50, f51, f52, f53⟩ := ans_froz TB.out) | (have TB : Aside0 True := ⟨trivial⟩)); have PB : Aside0 (Kd.R k51 51 wB w.heap.size (fun _ => True) (.slice Ahp hg.f3.length chp) hg.f3) := ⟨Kd.R_mono (Kd.R_lower hp (by first | exact CA.out.bel.size | exact (CA.out.alloc _).bel.size)) (fun _ _ => trivial)⟩; clear ho hp hb))
    all_goals rw [HQ0.out]
    all_goals refine ⟨rfl, Ahn, chn, Ahp, chp, ?_⟩
    · (repeat apply Exists.intro)
      refine ⟨by (try simp only [puts, List.foldl, Act.put, List.setIfInBounds_toArray, List.set_cons_zero, List.set_cons_succ]); rfl, ?_⟩
      exact CB.out.fresh PB.out
  rw [HQ0.out]
  rintro e_ a_ W30 ⟨rfl, Ahn, chn, Ahp, chp, g29, u291, u292, u293, u294, u295, u296, u297, u298, rfl, hC⟩
  clear C HQ0
  have C := Aside0.mk hC
  refine hKK _ _ ?_
  clear hKK hC
  subst hF
  simp only [puts, List.foldl, Act.put, List.setIfInBounds_toArray, List.set_cons_zero, List.set_cons_succ]
  as_aux_lemma =>
  refine wp_seq_k fun KK hKK => ?_
  refine wp_named fun F hF => ?_
  obtain ⟨Q0, hQ0⟩ : ∃ Q0 : Exit → Act → World → Prop, Q0 = (fun (e : Exit) (a' : Act) (W : World) => e = .normal ∧ ∃ (Ann : Option Addr) (cnn : Nat) (Anp2 : Option Addr) (cnp2 : Nat) (g30 : Nat) (u299 u300 u301 u302 u303 u304 u305 u306 u307 u308 : Value), a' = puts F [(25, .int .i64 0), (36, .slice Ann fl.length cnn), (37, .pointer (some ⟨g30, 0, none⟩)), (299, u299), (300, u300), (301, u301), (302, u302), (303, u303), (304, u304), (305, u305), (306, u306), (307, u307), (308, u308)] ∧ (Cy w W (boxL A0 A1 B2 B3 A4 m.length n1 ops.length more.length ps.length c0 c1 d2 d3 c4 o0 o1 o2 o3 b q1 q2 kk hh) [⟨Ann, cnn, fl⟩, ⟨Ahn, chn, fl⟩, ⟨Aln, cln, fl⟩, ⟨Awn, cwn, fl⟩, ⟨At, ct, gl⟩, ⟨As, cs, gl⟩, ⟨Ar, cr, fl⟩, ⟨Aq, cq, pl⟩, ⟨Ap, cp, pl⟩, ⟨An, cn, nl⟩, ⟨Af, cf, fl⟩] [⟨g30, nx.f0, nx.f1, nx.f2, Anp2, cnp2, nx.f3⟩, ⟨g29, hg.f0, hg.f1, hg.f2, Ahp, chp, hg.f3⟩, ⟨g28, lw.f0, lw.f1, lw.f2, Alp, clp, lw.f3⟩, ⟨g27, true, 0, 0, Awp, cwp, wp⟩, ⟨g23, false, 0, 0, Atp, ctp, ([] : List S51)⟩, ⟨g22, true, 0, hh, Asp, csp, ([] : List S51)⟩, ⟨g21, p0, p1, p2, Arp, crp, pp⟩, ⟨g20, true, 0, hh, Aqp, cqp, ([] : List S51)⟩, ⟨g19, p0, p1, p2, App, cpp, pp⟩, ⟨g16, z0, z1, z2, Anp, cnp, np⟩])) := ⟨_, rfl⟩
  have HQ0 := Aside0.mk hQ0
  clear hQ0
  refine Code.wp_mono (Q := Q0) ?tail30 ?walk30
  case walk30 => as_aux_lemma =>
    subst hF
    clear hKK
    go_region_held3 (fun W' => W'.cell? ⟨w.heap.size, 12, none⟩ = some (.int .i64 kk)) (first | (with_reducible exact (boxp12 C.out.box)) | (with_reducible exact (boxp12 C.out.drew.box)) | (with_reducible exact (boxp12 (C.out.drew.alloc _).box)) | (with_reducible exact (boxp12 (C.out.alloc _).drew.box)) | (with_reducible exact (boxp12 CA.out.box)) | (with_reducible exact (boxp12 (CA.out.alloc _).box)) | (with_reducible exact (boxp12 CB.out.box)) | (with_reducible exact (boxp12 (CB.out.alloc _).box)) | exact boxp12 (blk_ret CB.out.box NB.out) | exact (boxp12 (C.out.drew.alloc _).box)) (first
      | (go_at_call 10; (with_reducible refine (larchlaw06_copied.calls Af cf fl fl _ ?s1 ?s2 (copied_f fl HF.out.small_fl)).mono ?_); (case s1 => first | exact (C.out.drew.rowC (A := Af) (c := cf) (l := fl) (by simp)).1 | exact ((C.out.drew.alloc _).rowC (A := Af) (c := cf) (l := fl) (by simp)).1 | exact (C.out.rowC (A := Af) (c := cf) (l := fl) (by simp)).1); (case s2 => exact (C.out.rowC (A := Af) (c := cf) (l := fl) (by simp)).2); rintro e_ wA ⟨vA, rfl, ho, hb⟩; obtain ⟨Ax, cx, rfl⟩ := Kd.R_slice ho; have CA : Aside0 (Cy w wA (boxL A0 A1 B2 B3 A4 m.length n1 ops.length more.length ps.length c0 c1 d2 d3 c4 o0 o1 o2 o3 b q1 q2 kk hh) [⟨Ahn, chn, fl⟩, ⟨Aln, cln, fl⟩, ⟨Awn, cwn, fl⟩, ⟨At, ct, gl⟩, ⟨As, cs, gl⟩, ⟨Ar, cr, fl⟩, ⟨Aq, cq, pl⟩, ⟨Ap, cp, pl⟩, ⟨An, cn, nl⟩, ⟨Af, cf, fl⟩] [⟨g29, hg.f0, hg.f1, hg.f2, Ahp, chp, hg.f3⟩, ⟨g28, lw.f0, lw.f1, lw.f2, Alp, clp, lw.f3⟩, ⟨g27, true, 0, 0, Awp, cwp, wp⟩, ⟨g23, false, 0, 0, Atp, ctp, ([] : List S51)⟩, ⟨g22, true, 0, hh, Asp, csp, ([] : List S51)⟩, ⟨g21, p0, p1, p2, Arp, crp, pp⟩, ⟨g20, true, 0, hh, Aqp, cqp, ([] : List S51)⟩, ⟨g19, p0, p1, p2, App, cpp, pp⟩, ⟨g16, z0, z1, z2, Anp, cnp, np⟩]) := ⟨by first | exact C.out.drew.below hb | exact (C.out.drew.alloc _).below hb | exact C.out.below hb⟩; (first | (have TA : Aside0 (wA.heap[W30.heap.size]? = some (.cells #[.bool false, .int .i64 0, .int .i64 0, .slice none 0 0] 27 (0, 0))) := ⟨blk_below (blk_new W30.drew _) hb⟩) | (have TA : Aside0 True := ⟨trivial⟩)); have UA := Aside0.mk (Kd.R_reads' ho); clear ho hb)
      | (go_at_call 9; (with_reducible refine (model_Do.calls Ax cx fl 5 kk 0 0 fl nx.f0 nx.f1 nx.f2 nx.f3 0 _ ?s1 UA.out.2.1 HF.out.do30).mono ?_); (case s1 => first | exact UA.out.2.2 | exact Kd.C_below UA.out.2.2 (below_alloc (Below.refl _ _) _)); rintro e_ wB ⟨vB, vC, rfl, ho, hp, hb⟩; obtain ⟨Ann, cnn, rfl⟩ := Kd.R_slice ho; obtain ⟨Anp2, cnp2, rfl⟩ := Kd.R_slice hp; have CB : Aside0 (Cy w wB (boxL A0 A1 B2 B3 A4 m.length n1 ops.length more.length ps.length c0 c1 d2 d3 c4 o0 o1 o2 o3 b q1 q2 kk hh) [⟨Ann, cnn, fl⟩, ⟨Ahn, chn, fl⟩, ⟨Aln, cln, fl⟩, ⟨Awn, cwn, fl⟩, ⟨At, ct, gl⟩, ⟨As, cs, gl⟩, ⟨Ar, cr, fl⟩, ⟨Aq, cq, pl⟩, ⟨Ap, cp, pl⟩, ⟨An, cn, nl⟩, ⟨Af, cf, fl⟩] [⟨g29, hg.f0, hg.f1, hg.f2, Ahp, chp, hg.f3⟩, ⟨g28, lw.f0, lw.f1, lw.f2, Alp, clp, lw.f3⟩, ⟨g27, true, 0, 0, Awp, cwp, wp⟩, ⟨g23, false, 0, 0, Atp, ctp, ([] : List S51)⟩, ⟨g22, true, 0, hh, Asp, csp, ([] : List S51)⟩, ⟨g21, p0, p1, p2, Arp, crp, pp⟩, ⟨g20, true, 0, hh, Aqp, cqp, ([] : List S51)⟩, ⟨g19, p0, p1, p2, App, cpp, pp⟩, ⟨g16, z0, z1, z2, Anp, cnp, np⟩]) := ⟨by first | exact (CA.out.below hb).row (Kd.R_mono (Kd.R_lower ho CA.out.bel.size) (fun _ _ => trivial)) | exact ((CA.out.alloc _).below hb).row (Kd.R_mono (Kd.R_lower ho (CA.out.alloc _).bel.size) (fun _ _ => trivial))⟩; (first | (have TB : Aside0 (wB.heap[W30.heap.size]? = some (.cells #[.bool false, .int .i64 0, .int .i64 0, .slice none 0 0] 27 (0, 0))) := ⟨blk_below TA.out hb⟩; have NB : Aside0 (w.heap.size ≠ W30.heap.size) := ⟨Nat.ne_of_lt (blk_lt C.out.box)⟩; have LB : Aside0 (w.heap.size ≤ W30.heap.size ∧ ∀ q ∈ ([⟨g29, hg.f0, hg.f1, hg.f2, Ahp, chp, hg.f3⟩, ⟨g28, lw.f0, lw.f1, lw.f2, Alp, clp, lw.f3⟩, ⟨g27, true, 0, 0, Awp, cwp, wp⟩, ⟨g23, false, 0, 0, Atp, ctp, ([] : List S51)⟩, ⟨g22, true, 0, hh, Asp, csp, ([] : List S51)⟩, ⟨g21, p0, p1, p2, Arp, crp, pp⟩, ⟨g20, true, 0, hh, Aqp, cqp, ([] : List S51)⟩, ⟨g19, p0, p1, p2, App, cpp, pp⟩, ⟨g16, z0, z1, z2, Anp, cnp, np⟩] : List Ans), q.g < W30.heap.size) := ⟨C.out.bel.size, C.out.lt⟩; obtain ⟨t50, t51, t52, t53⟩ := ans4 (b := false) (x := 0) (y := 0) (v := .slice none 0 0) TB.out; obtain ⟨f50, f51, f52, f53⟩ := ans_froz TB.out) | (have TB : Aside0 (wB.heap[wA.heap.size]? = some (.cells #[.bool false, .int .i64 0, .int .i64 0, .slice none 0 0] 27 (0, 0))) := ⟨blk_below (blk_new wA _) hb⟩; have NB : Aside0 (w.heap.size ≠ wA.heap.size) := ⟨Nat.ne_of_lt (blk_lt CA.out.box)⟩; have LB : Aside0 (w.heap.size ≤ wA.heap.size ∧ ∀ q ∈ ([⟨g29, hg.f0, hg.f1, hg.f2, Ahp, chp, hg.f3⟩, ⟨g28, lw.f0, lw.f1, lw.f2, Alp, clp, lw.f3⟩, ⟨g27, true, 0, 0, Awp, cwp, wp⟩, ⟨g23, false, 0, 0, Atp, ctp, ([] : List S51)⟩, ⟨g22, true, 0, hh, Asp, csp, ([] : List S51)⟩, ⟨g21, p0, p1, p2, Arp, crp, pp⟩, ⟨g20, true, 0, hh, Aqp, cqp, ([] : List S51)⟩, ⟨g19, p0, p1, p2, App, cpp, pp⟩, ⟨g16, z0, z1, z2, Anp, cnp, np⟩] : List Ans), q.g < wA.heap.size) := ⟨CA.out.bel.size, CA.out.lt⟩; obtain ⟨t50, t51, t52, t53⟩ := ans4 (b := false) (x := 0) (y := 0) (v := .slice none 0 0) TB.out; obtain ⟨f50, f51, f52, f53⟩ := ans_froz TB.out) | (have TB : Aside0 True := ⟨trivial⟩)); have PB : Aside0 (Kd.R k51 51 wB w.heap.size (fun _ => True) (.slice Anp2 nx.f3.length cnp2) nx.f3) := ⟨Kd.R_mono (Kd.R_lower hp (by first | exact CA.out.bel.size | exact (CA.out.alloc _).bel.size)) (fun _ _ => trivial)⟩; clear ho hp hb))
    all_goals rw [HQ0.out]
    all_goals refine ⟨rfl, Ann, cnn, Anp2, cnp2, ?_⟩
    · (repeat apply Exists.intro)
      refine ⟨by (try simp only [puts, List.foldl, Act.put, List.setIfInBounds_toArray, List.set_cons_zero, List.set_cons_succ]); rfl, ?_⟩
      exact CB.out.fresh PB.out
    · (repeat apply Exists.intro)
      refine ⟨by (try simp only [puts, List.foldl, Act.put, List.setIfInBounds_toArray, List.set_cons_zero, List.set_cons_succ]); rfl, ?_⟩
      exact CB.out.filled TB.out NB.out LB.out.1 LB.out.2 PB.out
    · (repeat apply Exists.intro)
      refine ⟨by (try simp only [puts, List.foldl, Act.put, List.setIfInBounds_toArray, List.set_cons_zero, List.set_cons_succ]); rfl, ?_⟩
      exact CB.out.filled TB.out NB.out LB.out.1 LB.out.2 PB.out
  rw [HQ0.out]
  rintro e_ a_ W31 ⟨rfl, Ann, cnn, Anp2, cnp2, g30, u299, u300, u301, u302, u303, u304, u305, u306, u307, u308, rfl, hC⟩
  clear C HQ0
  have C := Aside0.mk hC
  refine hKK _ _ ?_
  clear hKK hC
  subst hF
  simp only [puts, List.foldl, Act.put, List.setIfInBounds_toArray, List.set_cons_zero, List.set_cons_succ]
  as_aux_lemma =>
  refine wp_seq_k fun KK hKK => ?_
  refine wp_named fun F hF => ?_
  obtain ⟨Q0, hQ0⟩ : ∃ Q0 : Exit → Act → World → Prop, Q0 = (fun (e : Exit) (a' : Act) (W : World) => e = .normal ∧ ∃ (Abn : Option Addr) (cbn : Nat) (Abp : Option Addr) (cbp : Nat) (g31 : Nat) (u309 u310 u311 u312 u313 u314 u315 u316 u317 u318 : Value), a' = puts F [(28, .int .i64 0), (38, .slice Abn fl.length cbn), (39, .pointer (some ⟨g31, 0, none⟩)), (309, u309), (310, u310), (311, u311), (312, u312), (313, u313), (314, u314), (315, u315), (316, u316), (317, u317), (318, u318)] ∧ (Cy w W (boxL A0 A1 B2 B3 A4 m.length n1 ops.length more.length ps.length c0 c1 d2 d3 c4 o0 o1 o2 o3 b q1 q2 kk hh) [⟨Abn, cbn, fl⟩, ⟨Ann, cnn, fl⟩, ⟨Ahn, chn, fl⟩, ⟨Aln, cln, fl⟩, ⟨Awn, cwn, fl⟩, ⟨At, ct, gl⟩, ⟨As, cs, gl⟩, ⟨Ar, cr, fl⟩, ⟨Aq, cq, pl⟩, ⟨Ap, cp, pl⟩, ⟨An, cn, nl⟩, ⟨Af, cf, fl⟩] [⟨g31, bk.f0, bk.f1, bk.f2, Abp, cbp, bk.f3⟩, ⟨g30, nx.f0, nx.f1, nx.f2, Anp2, cnp2, nx.f3⟩, ⟨g29, hg.f0, hg.f1, hg.f2, Ahp, chp, hg.f3⟩, ⟨g28, lw.f0, lw.f1, lw.f2, Alp, clp, lw.f3⟩, ⟨g27, true, 0, 0, Awp, cwp, wp⟩, ⟨g23, false, 0, 0, Atp, ctp, ([] : List S51)⟩, ⟨g22, true, 0, hh, Asp, csp, ([] : List S51)⟩, ⟨g21, p0, p1, p2, Arp, crp, pp⟩, ⟨g20, true, 0, hh, Aqp, cqp, ([] : List S51)⟩, ⟨g19, p0, p1, p2, App, cpp, pp⟩, ⟨g16, z0, z1, z2, Anp, cnp, np⟩])) := ⟨_, rfl⟩
  have HQ0 := Aside0.mk hQ0
  clear hQ0
  refine Code.wp_mono (Q := Q0) ?tail31 ?walk31
  case walk31 => as_aux_lemma =>
    subst hF
    clear hKK
    go_region_held3 (fun W' => W'.cell? ⟨w.heap.size, 12, none⟩ = some (.int .i64 kk)) (first | (with_reducible exact (boxp12 C.out.box)) | (with_reducible exact (boxp12 C.out.drew.box)) | (with_reducible exact (boxp12 (C.out.drew.alloc _).box)) | (with_reducible exact (boxp12 (C.out.alloc _).drew.box)) | (with_reducible exact (boxp12 CA.out.box)) | (with_reducible exact (boxp12 (CA.out.alloc _).box)) | (with_reducible exact (boxp12 CB.out.box)) | (with_reducible exact (boxp12 (CB.out.alloc _).box)) | exact boxp12 (blk_ret CB.out.box NB.out) | exact (boxp12 (C.out.drew.alloc _).box)) (first
      | (go_at_call 10; (with_reducible refine (larchlaw06_copied.calls Af cf fl fl _ ?s1 ?s2 (copied_f fl HF.out.small_fl)).mono ?_); (case s1 => first | exact (C.out.drew.rowC (A := Af) (c := cf) (l := fl) (by simp)).1 | exact ((C.out.drew.alloc _).rowC (A := Af) (c := cf) (l := fl) (by simp)).1 | exact (C.out.rowC (A := Af) (c := cf) (l := fl) (by simp)).1); (case s2 => exact (C.out.rowC (A := Af) (c := cf) (l := fl) (by simp)).2); rintro e_ wA ⟨vA, rfl, ho, hb⟩; obtain ⟨Ax, cx, rfl⟩ := Kd.R_slice ho; have CA : Aside0 (Cy w wA (boxL A0 A1 B2 B3 A4 m.length n1 ops.length more.length ps.length c0 c1 d2 d3 c4 o0 o1 o2 o3 b q1 q2 kk hh) [⟨Ann, cnn, fl⟩, ⟨Ahn, chn, fl⟩, ⟨Aln, cln, fl⟩, ⟨Awn, cwn, fl⟩, ⟨At, ct, gl⟩, ⟨As, cs, gl⟩, ⟨Ar, cr, fl⟩, ⟨Aq, cq, pl⟩, ⟨Ap, cp, pl⟩, ⟨An, cn, nl⟩, ⟨Af, cf, fl⟩] [⟨g30, nx.f0, nx.f1, nx.f2, Anp2, cnp2, nx.f3⟩, ⟨g29, hg.f0, hg.f1, hg.f2, Ahp, chp, hg.f3⟩, ⟨g28, lw.f0, lw.f1, lw.f2, Alp, clp, lw.f3⟩, ⟨g27, true, 0, 0, Awp, cwp, wp⟩, ⟨g23, false, 0, 0, Atp, ctp, ([] : List S51)⟩, ⟨g22, true, 0, hh, Asp, csp, ([] : List S51)⟩, ⟨g21, p0, p1, p2, Arp, crp, pp⟩, ⟨g20, true, 0, hh, Aqp, cqp, ([] : List S51)⟩, ⟨g19, p0, p1, p2, App, cpp, pp⟩, ⟨g16, z0, z1, z2, Anp, cnp, np⟩]) := ⟨by first | exact C.out.drew.below hb | exact (C.out.drew.alloc _).below hb | exact C.out.below hb⟩; (first | (have TA : Aside0 (wA.heap[W31.heap.size]? = some (.cells #[.bool false, .int .i64 0, .int .i64 0, .slice none 0 0] 27 (0, 0))) := ⟨blk_below (blk_new W31.drew _) hb⟩) | (have TA : Aside0 True := ⟨trivial⟩)); have UA := Aside0.mk (Kd.R_reads' ho); clear ho hb)
      | (go_at_call 9; (with_reducible refine (model_Do.calls Ax cx fl 6 kk 0 0 fl bk.f0 bk.f1 bk.f2 bk.f3 0 _ ?s1 UA.out.2.1 HF.out.do31).mono ?_); (case s1 => first | exact UA.out.2.2 | exact Kd.C_below UA.out.2.2 (below_alloc (Below.refl _ _) _)); rintro e_ wB ⟨vB, vC, rfl, ho, hp, hb⟩; obtain ⟨Abn, cbn, rfl⟩ := Kd.R_slice ho; obtain ⟨Abp, cbp, rfl⟩ := Kd.R_slice hp; have CB : Aside0 (Cy w wB (boxL A0 A1 B2 B3 A4 m.length n1 ops.length more.length ps.length c0 c1 d2 d3 c4 o0 o1 o2 o3 b q1 q2 kk hh) [⟨Abn, cbn, fl⟩, ⟨Ann, cnn, fl⟩, ⟨Ahn, chn, fl⟩, ⟨Aln, cln, fl⟩, ⟨Awn, cwn, fl⟩, ⟨At, ct, gl⟩, ⟨As, cs, gl⟩, ⟨Ar, cr, fl⟩, ⟨Aq, cq, pl⟩, ⟨Ap, cp, pl⟩, ⟨An, cn, nl⟩, ⟨Af, cf, fl⟩] [⟨g30, nx.f0, nx.f1, nx.f2, Anp2, cnp2, nx.f3⟩, ⟨g29, hg.f0, hg.f1, hg.f2, Ahp, chp, hg.f3⟩, ⟨g28, lw.f0, lw.f1, lw.f2, Alp, clp, lw.f3⟩, ⟨g27, true, 0, 0, Awp, cwp, wp⟩, ⟨g23, false, 0, 0, Atp, ctp, ([] : List S51)⟩, ⟨g22, true, 0, hh, Asp, csp, ([] : List S51)⟩, ⟨g21, p0, p1, p2, Arp, crp, pp⟩, ⟨g20, true, 0, hh, Aqp, cqp, ([] : List S51)⟩, ⟨g19, p0, p1, p2, App, cpp, pp⟩, ⟨g16, z0, z1, z2, Anp, cnp, np⟩]) := ⟨by first | exact (CA.out.below hb).row (Kd.R_mono (Kd.R_lower ho CA.out.bel.size) (fun _ _ => trivial)) | exact ((CA.out.alloc _).below hb).row (Kd.R_mono (Kd.R_lower ho (CA.out.alloc _).bel.size) (fun _ _ => trivial))⟩; (first | (have TB : Aside0 (wB.heap[W31.heap.size]? = some (.cells #[.bool false, .int .i64 0, .int .i64 0, .slice none 0 0] 27 (0, 0))) := ⟨blk_below TA.out hb⟩; have NB : Aside0 (w.heap.size ≠ W31.heap.size) := ⟨Nat.ne_of_lt (blk_lt C.out.box)⟩; have LB : Aside0 (w.heap.size ≤ W31.heap.size ∧ ∀ q ∈ ([⟨g30, nx.f0, nx.f1, nx.f2, Anp2, cnp2, nx.f3⟩, ⟨g29, hg.f0, hg.f1, hg.f2, Ahp, chp, hg.f3⟩, ⟨g28, lw.f0, lw.f1, lw.f2, Alp, clp, lw.f3⟩, ⟨g27, true, 0, 0, Awp, cwp, wp⟩, ⟨g23, false, 0, 0, Atp, ctp, ([] : List S51)⟩, ⟨g22, true, 0, hh, Asp, csp, ([] : List S51)⟩, ⟨g21, p0, p1, p2, Arp, crp, pp⟩, ⟨g20, true, 0, hh, Aqp, cqp, ([] : List S51)⟩, ⟨g19, p0, p1, p2, App, cpp, pp⟩, ⟨g16, z0, z1, z2, Anp, cnp, np⟩] : List Ans), q.g < W31.heap.size) := ⟨C.out.bel.size, C.out.lt⟩; obtain ⟨t50, t51, t52, t53⟩ := ans4 (b := false) (x := 0) (y := 0) (v := .slice none 0 0) TB.out; obtain ⟨f50, f51, f52, f53⟩ := ans_froz TB.out) | (have TB : Aside0 (wB.heap[wA.heap.size]? = some (.cells #[.bool false, .int .i64 0, .int .i64 0, .slice none 0 0] 27 (0, 0))) := ⟨blk_below (blk_new wA _) hb⟩; have NB : Aside0 (w.heap.size ≠ wA.heap.size) := ⟨Nat.ne_of_lt (blk_lt CA.out.box)⟩; have LB : Aside0 (w.heap.size ≤ wA.heap.size ∧ ∀ q ∈ ([⟨g30, nx.f0, nx.f1, nx.f2, Anp2, cnp2, nx.f3⟩, ⟨g29, hg.f0, hg.f1, hg.f2, Ahp, chp, hg.f3⟩, ⟨g28, lw.f0, lw.f1, lw.f2, Alp, clp, lw.f3⟩, ⟨g27, true, 0, 0, Awp, cwp, wp⟩, ⟨g23, false, 0, 0, Atp, ctp, ([] : List S51)⟩, ⟨g22, true, 0, hh, Asp, csp, ([] : List S51)⟩, ⟨g21, p0, p1, p2, Arp, crp, pp⟩, ⟨g20, true, 0, hh, Aqp, cqp, ([] : List S51)⟩, ⟨g19, p0, p1, p2, App, cpp, pp⟩, ⟨g16, z0, z1, z2, Anp, cnp, np⟩] : List Ans), q.g < wA.heap.size) := ⟨CA.out.bel.size, CA.out.lt⟩; obtain ⟨t50, t51, t52, t53⟩ := ans4 (b := false) (x := 0) (y := 0) (v := .slice none 0 0) TB.out; obtain ⟨f50, f51, f52, f53⟩ := ans_froz TB.out) | (have TB : Aside0 True := ⟨trivial⟩)); have PB : Aside0 (Kd.R k51 51 wB w.heap.size (fun _ => True) (.slice Abp bk.f3.length cbp) bk.f3) := ⟨Kd.R_mono (Kd.R_lower hp (by first | exact CA.out.bel.size | exact (CA.out.alloc _).bel.size)) (fun _ _ => trivial)⟩; clear ho hp hb))
    all_goals rw [HQ0.out]
    all_goals refine ⟨rfl, Abn, cbn, Abp, cbp, ?_⟩
    · (repeat apply Exists.intro)
      refine ⟨by (try simp only [puts, List.foldl, Act.put, List.setIfInBounds_toArray, List.set_cons_zero, List.set_cons_succ]); rfl, ?_⟩
      exact CB.out.fresh PB.out
    · (repeat apply Exists.intro)
      refine ⟨by (try simp only [puts, List.foldl, Act.put, List.setIfInBounds_toArray, List.set_cons_zero, List.set_cons_succ]); rfl, ?_⟩
      exact CB.out.filled TB.out NB.out LB.out.1 LB.out.2 PB.out
    · (repeat apply Exists.intro)
      refine ⟨by (try simp only [puts, List.foldl, Act.put, List.setIfInBounds_toArray, List.set_cons_zero, List.set_cons_succ]); rfl, ?_⟩
      exact CB.out.filled TB.out NB.out LB.out.1 LB.out.2 PB.out
  rw [HQ0.out]
  rintro e_ a_ W32 ⟨rfl, Abn, cbn, Abp, cbp, g31, u309, u310, u311, u312, u313, u314, u315, u316, u317, u318, rfl, hC⟩
  clear C HQ0
  have C := Aside0.mk hC
  refine hKK _ _ ?_
  clear hKK hC
  subst hF
  simp only [puts, List.foldl, Act.put, List.setIfInBounds_toArray, List.set_cons_zero, List.set_cons_succ]
  as_aux_lemma =>
  refine wp_seq_k fun KK hKK => ?_
  refine wp_named fun F hF => ?_
  obtain ⟨Q0, hQ0⟩ : ∃ Q0 : Exit → Act → World → Prop, Q0 = (fun (e : Exit) (a' : Act) (W : World) => e = .normal ∧ ∃ (u319 u320 u321 u322 u323 u324 u325 u326 u327 u328 u329 u330 u331 u332 u333 u334 u335 u336 u337 u338 u339 u340 u341 u342 : Value), a' = puts F [(319, u319), (320, u320), (321, u321), (322, u322), (323, u323), (324, u324), (325, u325), (326, u326), (327, u327), (328, u328), (329, u329), (330, u330), (331, u331), (332, u332), (333, u333), (334, u334), (335, u335), (336, u336), (337, u337), (338, u338), (339, u339), (340, u340), (341, u341), (342, u342), (343, .bool false)] ∧ (Cy w W (boxL A0 A1 B2 B3 A4 m.length n1 ops.length more.length ps.length c0 c1 d2 d3 c4 o0 o1 o2 o3 b q1 q2 kk hh) [⟨Abn, cbn, fl⟩, ⟨Ann, cnn, fl⟩, ⟨Ahn, chn, fl⟩, ⟨Aln, cln, fl⟩, ⟨Awn, cwn, fl⟩, ⟨At, ct, gl⟩, ⟨As, cs, gl⟩, ⟨Ar, cr, fl⟩, ⟨Aq, cq, pl⟩, ⟨Ap, cp, pl⟩, ⟨An, cn, nl⟩, ⟨Af, cf, fl⟩] [⟨g31, bk.f0, bk.f1, bk.f2, Abp, cbp, bk.f3⟩, ⟨g30, nx.f0, nx.f1, nx.f2, Anp2, cnp2, nx.f3⟩, ⟨g29, hg.f0, hg.f1, hg.f2, Ahp, chp, hg.f3⟩, ⟨g28, lw.f0, lw.f1, lw.f2, Alp, clp, lw.f3⟩, ⟨g27, true, 0, 0, Awp, cwp, wp⟩, ⟨g23, false, 0, 0, Atp, ctp, ([] : List S51)⟩, ⟨g22, true, 0, hh, Asp, csp, ([] : List S51)⟩, ⟨g21, p0, p1, p2, Arp, crp, pp⟩, ⟨g20, true, 0, hh, Aqp, cqp, ([] : List S51)⟩, ⟨g19, p0, p1, p2, App, cpp, pp⟩, ⟨g16, z0, z1, z2, Anp, cnp, np⟩])) := ⟨_, rfl⟩
  have HQ0 := Aside0.mk hQ0
  clear hQ0
  refine Code.wp_mono (Q := Q0) ?tail32 ?walk32
  case walk32 => as_aux_lemma =>
    subst hF
    clear hKK
    obtain ⟨a0, a1, a2, a3⟩ := C.out.ans (g := g27) (q0 := true) (q1 := 0) (q2 := 0) (A := Awp) (c := cwp) (ps := wp) (by simp)
    go_wp2_with (first
      | (go_at_call 12; (with_reducible refine (larchref06_Same.calls k Awp cwp wp Af cf fl true W32 (C.out.ansC (g := g27) (q0 := true) (q1 := 0) (q2 := 0) (A := Awp) (c := cwp) (ps := wp) (by simp)).1 (C.out.ansC (g := g27) (q0 := true) (q1 := 0) (q2 := 0) (A := Awp) (c := cwp) (ps := wp) (by simp)).2 (C.out.rowC (A := Af) (c := cf) (l := fl) (by simp)).1 (C.out.rowC (A := Af) (c := cf) (l := fl) (by simp)).2 HF.out.samew).mono ?_); rintro e_ wA ⟨rfl, hd⟩; have CA := Aside0.mk (C.out.below hd.below); clear hd))
    rw [HQ0.out]
    refine ⟨rfl, ?_⟩
    (repeat apply Exists.intro)
    refine ⟨by (try simp only [puts, List.foldl, Act.put, List.setIfInBounds_toArray, List.set_cons_zero, List.set_cons_succ]); (try rfl), ?_⟩
    exact CA.out
  rw [HQ0.out]
  rintro e_ a_ W34 ⟨rfl, u319, u320, u321, u322, u323, u324, u325, u326, u327, u328, u329, u330, u331, u332, u333, u334, u335, u336, u337, u338, u339, u340, u341, u342, rfl, hC⟩
  clear C HQ0
  have C := Aside0.mk hC
  refine hKK _ _ ?_
  clear hKK hC
  subst hF
  simp only [puts, List.foldl, Act.put, List.setIfInBounds_toArray, List.set_cons_zero, List.set_cons_succ]
  as_aux_lemma =>
  refine wp_seq_k fun KK hKK => ?_
  refine wp_named fun F hF => ?_
  obtain ⟨Q0, hQ0⟩ : ∃ Q0 : Exit → Act → World → Prop, Q0 = (fun (e : Exit) (a' : Act) (W : World) => e = .normal ∧ a' = puts F [(40, .slice none 0 0), (41, .slice none 0 0)] ∧ (Cy w W (boxL A0 A1 B2 B3 A4 m.length n1 ops.length more.length ps.length c0 c1 d2 d3 c4 o0 o1 o2 o3 b q1 q2 kk hh) [⟨Abn, cbn, fl⟩, ⟨Ann, cnn, fl⟩, ⟨Ahn, chn, fl⟩, ⟨Aln, cln, fl⟩, ⟨Awn, cwn, fl⟩, ⟨At, ct, gl⟩, ⟨As, cs, gl⟩, ⟨Ar, cr, fl⟩, ⟨Aq, cq, pl⟩, ⟨Ap, cp, pl⟩, ⟨An, cn, nl⟩, ⟨Af, cf, fl⟩] [⟨g31, bk.f0, bk.f1, bk.f2, Abp, cbp, bk.f3⟩, ⟨g30, nx.f0, nx.f1, nx.f2, Anp2, cnp2, nx.f3⟩, ⟨g29, hg.f0, hg.f1, hg.f2, Ahp, chp, hg.f3⟩, ⟨g28, lw.f0, lw.f1, lw.f2, Alp, clp, lw.f3⟩, ⟨g27, true, 0, 0, Awp, cwp, wp⟩, ⟨g23, false, 0, 0, Atp, ctp, ([] : List S51)⟩, ⟨g22, true, 0, hh, Asp, csp, ([] : List S51)⟩, ⟨g21, p0, p1, p2, Arp, crp, pp⟩, ⟨g20, true, 0, hh, Aqp, cqp, ([] : List S51)⟩, ⟨g19, p0, p1, p2, App, cpp, pp⟩, ⟨g16, z0, z1, z2, Anp, cnp, np⟩])) := ⟨_, rfl⟩
  have HQ0 := Aside0.mk hQ0
  clear hQ0
  refine Code.wp_mono (Q := Q0) ?tail34 ?walk34
  case walk34 => as_aux_lemma =>
    subst hF
    clear hKK
    go_wp2
    rw [HQ0.out]
    refine ⟨rfl, ?_⟩
    (repeat apply Exists.intro)
    refine ⟨by (try simp only [puts, List.foldl, Act.put, List.setIfInBounds_toArray, List.set_cons_zero, List.set_cons_succ]); (try rfl), ?_⟩
    exact C.out
  rw [HQ0.out]
  rintro e_ a_ W35 ⟨rfl, rfl, hC⟩
  clear C HQ0
  have C := Aside0.mk hC
  refine hKK _ _ ?_
  clear hKK hC
  subst hF
  simp only [puts, List.foldl, Act.put, List.setIfInBounds_toArray, List.set_cons_zero, List.set_cons_succ]
  as_aux_lemma =>
  refine wp_seq_k fun KJ hKJ => ?_
  refine wp_named fun FJ hFJ => ?_
  obtain ⟨QJ, hQJ⟩ : ∃ QJ : Exit → Act → World → Prop, QJ = (fun (e : Exit) (a' : Act) (W : World) => e = .normal ∧ ∃ (Aab : Option Addr) (cab : Nat) (u42 u43 u44 u344 u345 u346 u347 u348 u349 u350 u351 u352 u353 u354 u355 u356 u357 u358 u359 : Value), a' = puts FJ [(40, .slice Aab ab.length cab), (42, u42), (43, u43), (44, u44), (344, u344), (345, u345), (346, u346), (347, u347), (348, u348), (349, u349), (350, u350), (351, u351), (352, u352), (353, u353), (354, u354), (355, u355), (356, u356), (357, u357), (358, u358), (359, u359)] ∧ (Cy w W (boxL A0 A1 B2 B3 A4 m.length n1 ops.length more.length ps.length c0 c1 d2 d3 c4 o0 o1 o2 o3 b q1 q2 kk hh) [⟨Aab, cab, ab⟩, ⟨Abn, cbn, fl⟩, ⟨Ann, cnn, fl⟩, ⟨Ahn, chn, fl⟩, ⟨Aln, cln, fl⟩, ⟨Awn, cwn, fl⟩, ⟨At, ct, gl⟩, ⟨As, cs, gl⟩, ⟨Ar, cr, fl⟩, ⟨Aq, cq, pl⟩, ⟨Ap, cp, pl⟩, ⟨An, cn, nl⟩, ⟨Af, cf, fl⟩] [⟨g31, bk.f0, bk.f1, bk.f2, Abp, cbp, bk.f3⟩, ⟨g30, nx.f0, nx.f1, nx.f2, Anp2, cnp2, nx.f3⟩, ⟨g29, hg.f0, hg.f1, hg.f2, Ahp, chp, hg.f3⟩, ⟨g28, lw.f0, lw.f1, lw.f2, Alp, clp, lw.f3⟩, ⟨g27, true, 0, 0, Awp, cwp, wp⟩, ⟨g23, false, 0, 0, Atp, ctp, ([] : List S51)⟩, ⟨g22, true, 0, hh, Asp, csp, ([] : List S51)⟩, ⟨g21, p0, p1, p2, Arp, crp, pp⟩, ⟨g20, true, 0, hh, Aqp, cqp, ([] : List S51)⟩, ⟨g19, p0, p1, p2, App, cpp, pp⟩, ⟨g16, z0, z1, z2, Anp, cnp, np⟩])) := ⟨_, rfl⟩
  have HQJ := Aside0.mk hQJ
  clear hQJ
  refine Code.wp_mono (Q := QJ) ?tail35 ?walk35
  case walk35 => as_aux_lemma =>
    clear hKJ
    subst hFJ
    obtain ⟨y12⟩ : Aside0 _ := ⟨boxp12 C.out.box⟩
    by_cases hlt : kk < 9223372036854775807
    · have HD := Aside0.mk (HF.out.rng36 hlt)
      have hwr : IntKind.i64.wrap (kk + 1) = kk + 1 := IntWalk.i64_in _ (by have := HF.out.kkr; omega)
      go_wp2
      clear y12
      refine wp_named fun F hF => ?_
      obtain ⟨Q0, hQ0⟩ : ∃ Q0 : Exit → Act → World → Prop, Q0 = (fun (e : Exit) (a' : Act) (W : World) => e = .normal ∧ ∃ (Aj1 : Option Addr) (cj1 : Nat) (Ajp : Option Addr) (cjp : Nat) (g36 : Nat) (u347 u348 u349 u350 u351 u352 u353 u354 u355 u356 u357 : Value), a' = puts F [(42, .slice Aj1 fl.length cj1), (43, .pointer (some ⟨g36, 0, none⟩)), (44, .int .i64 0), (347, u347), (348, u348), (349, u349), (350, u350), (351, u351), (352, u352), (353, u353), (354, u354), (355, u355), (356, u356), (357, u357)] ∧ (Cy w W (boxL A0 A1 B2 B3 A4 m.length n1 ops.length more.length ps.length c0 c1 d2 d3 c4 o0 o1 o2 o3 b q1 q2 kk hh) [⟨Aj1, cj1, fl⟩, ⟨Abn, cbn, fl⟩, ⟨Ann, cnn, fl⟩, ⟨Ahn, chn, fl⟩, ⟨Aln, cln, fl⟩, ⟨Awn, cwn, fl⟩, ⟨At, ct, gl⟩, ⟨As, cs, gl⟩, ⟨Ar, cr, fl⟩, ⟨Aq, cq, pl⟩, ⟨Ap, cp, pl⟩, ⟨An, cn, nl⟩, ⟨Af, cf, fl⟩] [⟨g36, true, 0, 0, Ajp, cjp, ab⟩, ⟨g31, bk.f0, bk.f1, bk.f2, Abp, cbp, bk.f3⟩, ⟨g30, nx.f0, nx.f1, nx.f2, Anp2, cnp2, nx.f3⟩, ⟨g29, hg.f0, hg.f1, hg.f2, Ahp, chp, hg.f3⟩, ⟨g28, lw.f0, lw.f1, lw.f2, Alp, clp, lw.f3⟩, ⟨g27, true, 0, 0, Awp, cwp, wp⟩, ⟨g23, false, 0, 0, Atp, ctp, ([] : List S51)⟩, ⟨g22, true, 0, hh, Asp, csp, ([] : List S51)⟩, ⟨g21, p0, p1, p2, Arp, crp, pp⟩, ⟨g20, true, 0, hh, Aqp, cqp, ([] : List S51)⟩, ⟨g19, p0, p1, p2, App, cpp, pp⟩, ⟨g16, z0, z1, z2, Anp, cnp, np⟩])) := ⟨_, rfl⟩
      have HQ0 := Aside0.mk hQ0
      clear hQ0
      refine Code.wp_mono (Q := Q0) ?tail36 ?walk36
      case walk36 => as_aux_lemma =>
        subst hF
    
        go_region_held3 (fun W' => W'.cell? ⟨w.heap.size, 12, none⟩ = some (.int .i64 kk)) (first | (with_reducible exact (boxp12 C.out.box)) | (with_reducible exact (boxp12 C.out.drew.box)) | (with_reducible exact (boxp12 (C.out.drew.alloc _).box)) | (with_reducible exact (boxp12 (C.out.alloc _).drew.box)) | (with_reducible exact (boxp12 CA.out.box)) | (with_reducible exact (boxp12 (CA.out.alloc _).box)) | (with_reducible exact (boxp12 CB.out.box)) | (with_reducible exact (boxp12 (CB.out.alloc _).box)) | exact boxp12 (blk_ret CB.out.box NB.out) | exact (boxp12 (C.out.drew.alloc _).box)) (first
          | (go_at_call 10; (with_reducible refine (larchlaw06_copied.calls Af cf fl fl _ ?s1 ?s2 (copied_f fl HF.out.small_fl)).mono ?_); (case s1 => first | exact (C.out.drew.rowC (A := Af) (c := cf) (l := fl) (by simp)).1 | exact ((C.out.drew.alloc _).rowC (A := Af) (c := cf) (l := fl) (by simp)).1 | exact (C.out.rowC (A := Af) (c := cf) (l := fl) (by simp)).1); (case s2 => exact (C.out.rowC (A := Af) (c := cf) (l := fl) (by simp)).2); rintro e_ wA ⟨vA, rfl, ho, hb⟩; obtain ⟨Ax, cx, rfl⟩ := Kd.R_slice ho; have CA : Aside0 (Cy w wA (boxL A0 A1 B2 B3 A4 m.length n1 ops.length more.length ps.length c0 c1 d2 d3 c4 o0 o1 o2 o3 b q1 q2 kk hh) [⟨Abn, cbn, fl⟩, ⟨Ann, cnn, fl⟩, ⟨Ahn, chn, fl⟩, ⟨Aln, cln, fl⟩, ⟨Awn, cwn, fl⟩, ⟨At, ct, gl⟩, ⟨As, cs, gl⟩, ⟨Ar, cr, fl⟩, ⟨Aq, cq, pl⟩, ⟨Ap, cp, pl⟩, ⟨An, cn, nl⟩, ⟨Af, cf, fl⟩] [⟨g31, bk.f0, bk.f1, bk.f2, Abp, cbp, bk.f3⟩, ⟨g30, nx.f0, nx.f1, nx.f2, Anp2, cnp2, nx.f3⟩, ⟨g29, hg.f0, hg.f1, hg.f2, Ahp, chp, hg.f3⟩, ⟨g28, lw.f0, lw.f1, lw.f2, Alp, clp, lw.f3⟩, ⟨g27, true, 0, 0, Awp, cwp, wp⟩, ⟨g23, false, 0, 0, Atp, ctp, ([] : List S51)⟩, ⟨g22, true, 0, hh, Asp, csp, ([] : List S51)⟩, ⟨g21, p0, p1, p2, Arp, crp, pp⟩, ⟨g20, true, 0, hh, Aqp, cqp, ([] : List S51)⟩, ⟨g19, p0, p1, p2, App, cpp, pp⟩, ⟨g16, z0, z1, z2, Anp, cnp, np⟩]) := ⟨by first | exact C.out.drew.below hb | exact (C.out.drew.alloc _).below hb | exact C.out.below hb⟩; (first | (have TA : Aside0 (wA.heap[W35.heap.size]? = some (.cells #[.bool false, .int .i64 0, .int .i64 0, .slice none 0 0] 27 (0, 0))) := ⟨blk_below (blk_new W35.drew _) hb⟩) | (have TA : Aside0 True := ⟨trivial⟩)); have UA := Aside0.mk (Kd.R_reads' ho); clear ho hb)
          | (go_at_call 9; (with_reducible refine (model_Do.calls Ax cx fl 9 (kk + 1) 0 9223372036854775807 fl true 0 0 ab 0 _ ?s1 UA.out.2.1 HD.out).mono ?_); (case s1 => first | exact UA.out.2.2 | exact Kd.C_below UA.out.2.2 (below_alloc (Below.refl _ _) _)); rintro e_ wB ⟨vB, vC, rfl, ho, hp, hb⟩; obtain ⟨Aj1, cj1, rfl⟩ := Kd.R_slice ho; obtain ⟨Ajp, cjp, rfl⟩ := Kd.R_slice hp; have CB : Aside0 (Cy w wB (boxL A0 A1 B2 B3 A4 m.length n1 ops.length more.length ps.length c0 c1 d2 d3 c4 o0 o1 o2 o3 b q1 q2 kk hh) [⟨Aj1, cj1, fl⟩, ⟨Abn, cbn, fl⟩, ⟨Ann, cnn, fl⟩, ⟨Ahn, chn, fl⟩, ⟨Aln, cln, fl⟩, ⟨Awn, cwn, fl⟩, ⟨At, ct, gl⟩, ⟨As, cs, gl⟩, ⟨Ar, cr, fl⟩, ⟨Aq, cq, pl⟩, ⟨Ap, cp, pl⟩, ⟨An, cn, nl⟩, ⟨Af, cf, fl⟩] [⟨g31, bk.f0, bk.f1, bk.f2, Abp, cbp, bk.f3⟩, ⟨g30, nx.f0, nx.f1, nx.f2, Anp2, cnp2, nx.f3⟩, ⟨g29, hg.f0, hg.f1, hg.f2, Ahp, chp, hg.f3⟩, ⟨g28, lw.f0, lw.f1, lw.f2, Alp, clp, lw.f3⟩, ⟨g27, true, 0, 0, Awp, cwp, wp⟩, ⟨g23, false, 0, 0, Atp, ctp, ([] : List S51)⟩, ⟨g22, true, 0, hh, Asp, csp, ([] : List S51)⟩, ⟨g21, p0, p1, p2, Arp, crp, pp⟩, ⟨g20, true, 0, hh, Aqp, cqp, ([] : List S51)⟩, ⟨g19, p0, p1, p2, App, cpp, pp⟩, ⟨g16, z0, z1, z2, Anp, cnp, np⟩]) := ⟨by first | exact (CA.out.below hb).row (Kd.R_mono (Kd.R_lower ho CA.out.bel.size) (fun _ _ => trivial)) | exact ((CA.out.alloc _).below hb).row (Kd.R_mono (Kd.R_lower ho (CA.out.alloc _).bel.size) (fun _ _ => trivial))⟩; (first | (have TB : Aside0 (wB.heap[W35.heap.size]? = some (.cells #[.bool false, .int .i64 0, .int .i64 0, .slice none 0 0] 27 (0, 0))) := ⟨blk_below TA.out hb⟩; have NB : Aside0 (w.heap.size ≠ W35.heap.size) := ⟨Nat.ne_of_lt (blk_lt C.out.box)⟩; have LB : Aside0 (w.heap.size ≤ W35.heap.size ∧ ∀ q ∈ ([⟨g31, bk.f0, bk.f1, bk.f2, Abp, cbp, bk.f3⟩, ⟨g30, nx.f0, nx.f1, nx.f2, Anp2, cnp2, nx.f3⟩, ⟨g29, hg.f0, hg.f1, hg.f2, Ahp, chp, hg.f3⟩, ⟨g28, lw.f0, lw.f1, lw.f2, Alp, clp, lw.f3⟩, ⟨g27, true, 0, 0, Awp, cwp, wp⟩, ⟨g23, false, 0, 0, Atp, ctp, ([] : List S51)⟩, ⟨g22, true, 0, hh, Asp, csp, ([] : List S51)⟩, ⟨g21, p0, p1, p2, Arp, crp, pp⟩, ⟨g20, true, 0, hh, Aqp, cqp, ([] : List S51)⟩, ⟨g19, p0, p1, p2, App, cpp, pp⟩, ⟨g16, z0, z1, z2, Anp, cnp, np⟩] : List Ans), q.g < W35.heap.size) := ⟨C.out.bel.size, C.out.lt⟩; obtain ⟨t50, t51, t52, t53⟩ := ans4 (b := false) (x := 0) (y := 0) (v := .slice none 0 0) TB.out; obtain ⟨f50, f51, f52, f53⟩ := ans_froz TB.out) | (have TB : Aside0 (wB.heap[wA.heap.size]? = some (.cells #[.bool false, .int .i64 0, .int .i64 0, .slice none 0 0] 27 (0, 0))) := ⟨blk_below (blk_new wA _) hb⟩; have NB : Aside0 (w.heap.size ≠ wA.heap.size) := ⟨Nat.ne_of_lt (blk_lt CA.out.box)⟩; have LB : Aside0 (w.heap.size ≤ wA.heap.size ∧ ∀ q ∈ ([⟨g31, bk.f0, bk.f1, bk.f2, Abp, cbp, bk.f3⟩, ⟨g30, nx.f0, nx.f1, nx.f2, Anp2, cnp2, nx.f3⟩, ⟨g29, hg.f0, hg.f1, hg.f2, Ahp, chp, hg.f3⟩, ⟨g28, lw.f0, lw.f1, lw.f2, Alp, clp, lw.f3⟩, ⟨g27, true, 0, 0, Awp, cwp, wp⟩, ⟨g23, false, 0, 0, Atp, ctp, ([] : List S51)⟩, ⟨g22, true, 0, hh, Asp, csp, ([] : List S51)⟩, ⟨g21, p0, p1, p2, Arp, crp, pp⟩, ⟨g20, true, 0, hh, Aqp, cqp, ([] : List S51)⟩, ⟨g19, p0, p1, p2, App, cpp, pp⟩, ⟨g16, z0, z1, z2, Anp, cnp, np⟩] : List Ans), q.g < wA.heap.size) := ⟨CA.out.bel.size, CA.out.lt⟩; obtain ⟨t50, t51, t52, t53⟩ := ans4 (b := false) (x := 0) (y := 0) (v := .slice none 0 0) TB.out; obtain ⟨f50, f51, f52, f53⟩ := ans_froz TB.out) | (have TB : Aside0 True := ⟨trivial⟩)); have PB : Aside0 (Kd.R k51 51 wB w.heap.size (fun _ => True) (.slice Ajp ab.length cjp) ab) := ⟨Kd.R_mono (Kd.R_lower hp (by first | exact CA.out.bel.size | exact (CA.out.alloc _).bel.size)) (fun _ _ => trivial)⟩; clear ho hp hb))
        all_goals rw [HQ0.out]
        all_goals refine ⟨rfl, Aj1, cj1, Ajp, cjp, ?_⟩
        · (repeat apply Exists.intro)
          refine ⟨by (try simp only [puts, List.foldl, Act.put, List.setIfInBounds_toArray, List.set_cons_zero, List.set_cons_succ]); rfl, ?_⟩
          exact CB.out.fresh PB.out
        · (repeat apply Exists.intro)
          refine ⟨by (try simp only [puts, List.foldl, Act.put, List.setIfInBounds_toArray, List.set_cons_zero, List.set_cons_succ]); rfl, ?_⟩
          exact CB.out.filled TB.out NB.out LB.out.1 LB.out.2 PB.out
        · (repeat apply Exists.intro)
          refine ⟨by (try simp only [puts, List.foldl, Act.put, List.setIfInBounds_toArray, List.set_cons_zero, List.set_cons_succ]); rfl, ?_⟩
          exact CB.out.filled TB.out NB.out LB.out.1 LB.out.2 PB.out
      rw [HQ0.out]
      rintro e_ a_ W3600 ⟨rfl, Aj1, cj1, Ajp, cjp, g36, u347, u348, u349, u350, u351, u352, u353, u354, u355, u356, u357, rfl, hC⟩
      clear C HQ0
      have C := Aside0.mk hC
      simp only [Exit.then]
      clear hC
      subst hF
      simp only [puts, List.foldl, Act.put, List.setIfInBounds_toArray, List.set_cons_zero, List.set_cons_succ]
      obtain ⟨a0, a1, a2, a3⟩ := C.out.ans (g := g36) (q0 := true) (q1 := 0) (q2 := 0) (A := Ajp) (c := cjp) (ps := ab) (by simp)
      go_wp2
      rw [HQJ.out]
      refine ⟨rfl, Ajp, cjp, ?_⟩
      (repeat apply Exists.intro)
      refine ⟨by (try simp only [puts, List.foldl, Act.put, List.setIfInBounds_toArray, List.set_cons_zero, List.set_cons_succ]); (try rfl), ?_⟩
      exact (C.out.ofAns (g := g36) (q0 := true) (q1 := 0) (q2 := 0) (A := Ajp) (c := cjp) (ps := ab) (by simp)).sub (by simp) (by simp)
    · have HE := HF.out.rng36' hlt
      go_wp2
      rw [HQJ.out]
      refine ⟨rfl, none, 0, ?_⟩
      rw [HE]
      (repeat apply Exists.intro)
      refine ⟨by (try simp only [puts, List.foldl, Act.put, List.setIfInBounds_toArray, List.set_cons_zero, List.set_cons_succ]); (try rfl), ?_⟩
      exact C.out.row (Kd.R_nil _ _ _ _ _)
  rw [HQJ.out]
  rintro e_ a_ W38 ⟨rfl, Aab, cab, u42, u43, u44, u344, u345, u346, u347, u348, u349, u350, u351, u352, u353, u354, u355, u356, u357, u358, u359, rfl, hC⟩
  clear C HQJ
  have C := Aside0.mk hC
  refine hKJ _ _ ?_
  clear hKJ hC
  subst hFJ
  simp only [puts, List.foldl, Act.put, List.setIfInBounds_toArray, List.set_cons_zero, List.set_cons_succ]
  as_aux_lemma =>
  refine wp_seq_k fun KJ hKJ => ?_
  refine wp_named fun FJ hFJ => ?_
  obtain ⟨QJ, hQJ⟩ : ∃ QJ : Exit → Act → World → Prop, QJ = (fun (e : Exit) (a' : Act) (W : World) => e = .normal ∧ ∃ (Abe : Option Addr) (cbe : Nat) (u45 u46 u47 u360 u361 u362 u363 u364 u365 u366 u367 u368 u369 u370 u371 u372 u373 u374 u375 u376 u377 : Value), a' = puts FJ [(41, .slice Abe be.length cbe), (45, u45), (46, u46), (47, u47), (360, u360), (361, u361), (362, u362), (363, u363), (364, u364), (365, u365), (366, u366), (367, u367), (368, u368), (369, u369), (370, u370), (371, u371), (372, u372), (373, u373), (374, u374), (375, u375), (376, u376), (377, u377)] ∧ (Cy w W (boxL A0 A1 B2 B3 A4 m.length n1 ops.length more.length ps.length c0 c1 d2 d3 c4 o0 o1 o2 o3 b q1 q2 kk hh) [⟨Abe, cbe, be⟩, ⟨Aab, cab, ab⟩, ⟨Abn, cbn, fl⟩, ⟨Ann, cnn, fl⟩, ⟨Ahn, chn, fl⟩, ⟨Aln, cln, fl⟩, ⟨Awn, cwn, fl⟩, ⟨At, ct, gl⟩, ⟨As, cs, gl⟩, ⟨Ar, cr, fl⟩, ⟨Aq, cq, pl⟩, ⟨Ap, cp, pl⟩, ⟨An, cn, nl⟩, ⟨Af, cf, fl⟩] [⟨g31, bk.f0, bk.f1, bk.f2, Abp, cbp, bk.f3⟩, ⟨g30, nx.f0, nx.f1, nx.f2, Anp2, cnp2, nx.f3⟩, ⟨g29, hg.f0, hg.f1, hg.f2, Ahp, chp, hg.f3⟩, ⟨g28, lw.f0, lw.f1, lw.f2, Alp, clp, lw.f3⟩, ⟨g27, true, 0, 0, Awp, cwp, wp⟩, ⟨g23, false, 0, 0, Atp, ctp, ([] : List S51)⟩, ⟨g22, true, 0, hh, Asp, csp, ([] : List S51)⟩, ⟨g21, p0, p1, p2, Arp, crp, pp⟩, ⟨g20, true, 0, hh, Aqp, cqp, ([] : List S51)⟩, ⟨g19, p0, p1, p2, App, cpp, pp⟩, ⟨g16, z0, z1, z2, Anp, cnp, np⟩])) := ⟨_, rfl⟩
  have HQJ := Aside0.mk hQJ
  clear hQJ
  refine Code.wp_mono (Q := QJ) ?tail38 ?walk38
  case walk38 => as_aux_lemma =>
    clear hKJ
    subst hFJ
    obtain ⟨y12⟩ : Aside0 _ := ⟨boxp12 C.out.box⟩
    by_cases hlt : -9223372036854775808 < kk
    · have HD := Aside0.mk (HF.out.rng39 hlt)
      have hwr : IntKind.i64.wrap (kk - 1) = kk - 1 := IntWalk.i64_in _ (by have := HF.out.kkr; omega)
      go_wp2
      clear y12
      refine wp_named fun F hF => ?_
      obtain ⟨Q0, hQ0⟩ : ∃ Q0 : Exit → Act → World → Prop, Q0 = (fun (e : Exit) (a' : Act) (W : World) => e = .normal ∧ ∃ (Aj2 : Option Addr) (cj2 : Nat) (Ajq : Option Addr) (cjq : Nat) (g39 : Nat) (u364 u365 u366 u367 u368 u369 u370 u371 u372 u373 u374 u375 : Value), a' = puts F [(45, .slice Aj2 fl.length cj2), (46, .pointer (some ⟨g39, 0, none⟩)), (47, .int .i64 0), (364, u364), (365, u365), (366, u366), (367, u367), (368, u368), (369, u369), (370, u370), (371, u371), (372, u372), (373, u373), (374, u374), (375, u375)] ∧ (Cy w W (boxL A0 A1 B2 B3 A4 m.length n1 ops.length more.length ps.length c0 c1 d2 d3 c4 o0 o1 o2 o3 b q1 q2 kk hh) [⟨Aj2, cj2, fl⟩, ⟨Aab, cab, ab⟩, ⟨Abn, cbn, fl⟩, ⟨Ann, cnn, fl⟩, ⟨Ahn, chn, fl⟩, ⟨Aln, cln, fl⟩, ⟨Awn, cwn, fl⟩, ⟨At, ct, gl⟩, ⟨As, cs, gl⟩, ⟨Ar, cr, fl⟩, ⟨Aq, cq, pl⟩, ⟨Ap, cp, pl⟩, ⟨An, cn, nl⟩, ⟨Af, cf, fl⟩] [⟨g39, true, 0, 0, Ajq, cjq, be⟩, ⟨g31, bk.f0, bk.f1, bk.f2, Abp, cbp, bk.f3⟩, ⟨g30, nx.f0, nx.f1, nx.f2, Anp2, cnp2, nx.f3⟩, ⟨g29, hg.f0, hg.f1, hg.f2, Ahp, chp, hg.f3⟩, ⟨g28, lw.f0, lw.f1, lw.f2, Alp, clp, lw.f3⟩, ⟨g27, true, 0, 0, Awp, cwp, wp⟩, ⟨g23, false, 0, 0, Atp, ctp, ([] : List S51)⟩, ⟨g22, true, 0, hh, Asp, csp, ([] : List S51)⟩, ⟨g21, p0, p1, p2, Arp, crp, pp⟩, ⟨g20, true, 0, hh, Aqp, cqp, ([] : List S51)⟩, ⟨g19, p0, p1, p2, App, cpp, pp⟩, ⟨g16, z0, z1, z2, Anp, cnp, np⟩])) := ⟨_, rfl⟩
      have HQ0 := Aside0.mk hQ0
      clear hQ0
      refine Code.wp_mono (Q := Q0) ?tail39 ?walk39
      case walk39 => as_aux_lemma =>
        subst hF
    
        go_region_held3 (fun W' => W'.cell? ⟨w.heap.size, 12, none⟩ = some (.int .i64 kk)) (first | (with_reducible exact (boxp12 C.out.box)) | (with_reducible exact (boxp12 C.out.drew.box)) | (with_reducible exact (boxp12 (C.out.drew.alloc _).box)) | (with_reducible exact (boxp12 (C.out.alloc _).drew.box)) | (with_reducible exact (boxp12 CA.out.box)) | (with_reducible exact (boxp12 (CA.out.alloc _).box)) | (with_reducible exact (boxp12 CB.out.box)) | (with_reducible exact (boxp12 (CB.out.alloc _).box)) | exact boxp12 (blk_ret CB.out.box NB.out) | exact (boxp12 (C.out.drew.alloc _).box)) (first
          | (go_at_call 10; (with_reducible refine (larchlaw06_copied.calls Af cf fl fl _ ?s1 ?s2 (copied_f fl HF.out.small_fl)).mono ?_); (case s1 => first | exact (C.out.drew.rowC (A := Af) (c := cf) (l := fl) (by simp)).1 | exact ((C.out.drew.alloc _).rowC (A := Af) (c := cf) (l := fl) (by simp)).1 | exact (C.out.rowC (A := Af) (c := cf) (l := fl) (by simp)).1); (case s2 => exact (C.out.rowC (A := Af) (c := cf) (l := fl) (by simp)).2); rintro e_ wA ⟨vA, rfl, ho, hb⟩; obtain ⟨Ax, cx, rfl⟩ := Kd.R_slice ho; have CA : Aside0 (Cy w wA (boxL A0 A1 B2 B3 A4 m.length n1 ops.length more.length ps.length c0 c1 d2 d3 c4 o0 o1 o2 o3 b q1 q2 kk hh) [⟨Aab, cab, ab⟩, ⟨Abn, cbn, fl⟩, ⟨Ann, cnn, fl⟩, ⟨Ahn, chn, fl⟩, ⟨Aln, cln, fl⟩, ⟨Awn, cwn, fl⟩, ⟨At, ct, gl⟩, ⟨As, cs, gl⟩, ⟨Ar, cr, fl⟩, ⟨Aq, cq, pl⟩, ⟨Ap, cp, pl⟩, ⟨An, cn, nl⟩, ⟨Af, cf, fl⟩] [⟨g31, bk.f0, bk.f1, bk.f2, Abp, cbp, bk.f3⟩, ⟨g30, nx.f0, nx.f1, nx.f2, Anp2, cnp2, nx.f3⟩, ⟨g29, hg.f0, hg.f1, hg.f2, Ahp, chp, hg.f3⟩, ⟨g28, lw.f0, lw.f1, lw.f2, Alp, clp, lw.f3⟩, ⟨g27, true, 0, 0, Awp, cwp, wp⟩, ⟨g23, false, 0, 0, Atp, ctp, ([] : List S51)⟩, ⟨g22, true, 0, hh, Asp, csp, ([] : List S51)⟩, ⟨g21, p0, p1, p2, Arp, crp, pp⟩, ⟨g20, true, 0, hh, Aqp, cqp, ([] : List S51)⟩, ⟨g19, p0, p1, p2, App, cpp, pp⟩, ⟨g16, z0, z1, z2, Anp, cnp, np⟩]) := ⟨by first | exact C.out.drew.below hb | exact (C.out.drew.alloc _).below hb | exact C.out.below hb⟩; (first | (have TA : Aside0 (wA.heap[W38.heap.size]? = some (.cells #[.bool false, .int .i64 0, .int .i64 0, .slice none 0 0] 27 (0, 0))) := ⟨blk_below (blk_new W38.drew _) hb⟩) | (have TA : Aside0 True := ⟨trivial⟩)); have UA := Aside0.mk (Kd.R_reads' ho); clear ho hb)
          | (go_at_call 9; (with_reducible refine (model_Do.calls Ax cx fl 9 (-9223372036854775808) 0 (kk - 1) fl true 0 0 be 0 _ ?s1 UA.out.2.1 HD.out).mono ?_); (case s1 => first | exact UA.out.2.2 | exact Kd.C_below UA.out.2.2 (below_alloc (Below.refl _ _) _)); rintro e_ wB ⟨vB, vC, rfl, ho, hp, hb⟩; obtain ⟨Aj2, cj2, rfl⟩ := Kd.R_slice ho; obtain ⟨Ajq, cjq, rfl⟩ := Kd.R_slice hp; have CB : Aside0 (Cy w wB (boxL A0 A1 B2 B3 A4 m.length n1 ops.length more.length ps.length c0 c1 d2 d3 c4 o0 o1 o2 o3 b q1 q2 kk hh) [⟨Aj2, cj2, fl⟩, ⟨Aab, cab, ab⟩, ⟨Abn, cbn, fl⟩, ⟨Ann, cnn, fl⟩, ⟨Ahn, chn, fl⟩, ⟨Aln, cln, fl⟩, ⟨Awn, cwn, fl⟩, ⟨At, ct, gl⟩, ⟨As, cs, gl⟩, ⟨Ar, cr, fl⟩, ⟨Aq, cq, pl⟩, ⟨Ap, cp, pl⟩, ⟨An, cn, nl⟩, ⟨Af, cf, fl⟩] [⟨g31, bk.f0, bk.f1, bk.f2, Abp, cbp, bk.f3⟩, ⟨g30, nx.f0, nx.f1, nx.f2, Anp2, cnp2, nx.f3⟩, ⟨g29, hg.f0, hg.f1, hg.f2, Ahp, chp, hg.f3⟩, ⟨g28, lw.f0, lw.f1, lw.f2, Alp, clp, lw.f3⟩, ⟨g27, true, 0, 0, Awp, cwp, wp⟩, ⟨g23, false, 0, 0, Atp, ctp, ([] : List S51)⟩, ⟨g22, true, 0, hh, Asp, csp, ([] : List S51)⟩, ⟨g21, p0, p1, p2, Arp, crp, pp⟩, ⟨g20, true, 0, hh, Aqp, cqp, ([] : List S51)⟩, ⟨g19, p0, p1, p2, App, cpp, pp⟩, ⟨g16, z0, z1, z2, Anp, cnp, np⟩]) := ⟨by first | exact (CA.out.below hb).row (Kd.R_mono (Kd.R_lower ho CA.out.bel.size) (fun _ _ => trivial)) | exact ((CA.out.alloc _).below hb).row (Kd.R_mono (Kd.R_lower ho (CA.out.alloc _).bel.size) (fun _ _ => trivial))⟩; (first | (have TB : Aside0 (wB.heap[W38.heap.size]? = some (.cells #[.bool false, .int .i64 0, .int .i64 0, .slice none 0 0] 27 (0, 0))) := ⟨blk_below TA.out hb⟩; have NB : Aside0 (w.heap.size ≠ W38.heap.size) := ⟨Nat.ne_of_lt (blk_lt C.out.box)⟩; have LB : Aside0 (w.heap.size ≤ W38.heap.size ∧ ∀ q ∈ ([⟨g31, bk.f0, bk.f1, bk.f2, Abp, cbp, bk.f3⟩, ⟨g30, nx.f0, nx.f1, nx.f2, Anp2, cnp2, nx.f3⟩, ⟨g29, hg.f0, hg.f1, hg.f2, Ahp, chp, hg.f3⟩, ⟨g28, lw.f0, lw.f1, lw.f2, Alp, clp, lw.f3⟩, ⟨g27, true, 0, 0, Awp, cwp, wp⟩, ⟨g23, false, 0, 0, Atp, ctp, ([] : List S51)⟩, ⟨g22, true, 0, hh, Asp, csp, ([] : List S51)⟩, ⟨g21, p0, p1, p2, Arp, crp, pp⟩, ⟨g20, true, 0, hh, Aqp, cqp, ([] : List S51)⟩, ⟨g19, p0, p1, p2, App, cpp, pp⟩, ⟨g16, z0, z1, z2, Anp, cnp, np⟩] : List Ans), q.g < W38.heap.size) := ⟨C.out.bel.size, C.out.lt⟩; obtain ⟨t50, t51, t52, t53⟩ := ans4 (b := false) (x := 0) (y := 0) (v := .slice none 0 0) TB.out; obtain ⟨f50, f51, f52, f53⟩ := ans_froz TB.out) | (have TB : Aside0 (wB.heap[wA.heap.size]? = some (.cells #[.bool false, .int .i64 0, .int .i64 0, .slice none 0 0] 27 (0, 0))) := ⟨blk_below (blk_new wA _) hb⟩; have NB : Aside0 (w.heap.size ≠ wA.heap.size) := ⟨Nat.ne_of_lt (blk_lt CA.out.box)⟩; have LB : Aside0 (w.heap.size ≤ wA.heap.size ∧ ∀ q ∈ ([⟨g31, bk.f0, bk.f1, bk.f2, Abp, cbp, bk.f3⟩, ⟨g30, nx.f0, nx.f1, nx.f2, Anp2, cnp2, nx.f3⟩, ⟨g29, hg.f0, hg.f1, hg.f2, Ahp, chp, hg.f3⟩, ⟨g28, lw.f0, lw.f1, lw.f2, Alp, clp, lw.f3⟩, ⟨g27, true, 0, 0, Awp, cwp, wp⟩, ⟨g23, false, 0, 0, Atp, ctp, ([] : List S51)⟩, ⟨g22, true, 0, hh, Asp, csp, ([] : List S51)⟩, ⟨g21, p0, p1, p2, Arp, crp, pp⟩, ⟨g20, true, 0, hh, Aqp, cqp, ([] : List S51)⟩, ⟨g19, p0, p1, p2, App, cpp, pp⟩, ⟨g16, z0, z1, z2, Anp, cnp, np⟩] : List Ans), q.g < wA.heap.size) := ⟨CA.out.bel.size, CA.out.lt⟩; obtain ⟨t50, t51, t52, t53⟩ := ans4 (b := false) (x := 0) (y := 0) (v := .slice none 0 0) TB.out; obtain ⟨f50, f51, f52, f53⟩ := ans_froz TB.out) | (have TB : Aside0 True := ⟨trivial⟩)); have PB : Aside0 (Kd.R k51 51 wB w.heap.size (fun _ => True) (.slice Ajq be.length cjq) be) := ⟨Kd.R_mono (Kd.R_lower hp (by first | exact CA.out.bel.size | exact (CA.out.alloc _).bel.size)) (fun _ _ => trivial)⟩; clear ho hp hb))
        all_goals rw [HQ0.out]
        all_goals refine ⟨rfl, Aj2, cj2, Ajq, cjq, ?_⟩
        · (repeat apply Exists.intro)
          refine ⟨by (try simp only [puts, List.foldl, Act.put, List.setIfInBounds_toArray, List.set_cons_zero, List.set_cons_succ]); rfl, ?_⟩
          exact CB.out.fresh PB.out
        · (repeat apply Exists.intro)
          refine ⟨by (try simp only [puts, List.foldl, Act.put, List.setIfInBounds_toArray, List.set_cons_zero, List.set_cons_succ]); rfl, ?_⟩
          exact CB.out.filled TB.out NB.out LB.out.1 LB.out.2 PB.out
        · (repeat apply Exists.intro)
          refine ⟨by (try simp only [puts, List.foldl, Act.put, List.setIfInBounds_toArray, List.set_cons_zero, List.set_cons_succ]); rfl, ?_⟩
          exact CB.out.filled TB.out NB.out LB.out.1 LB.out.2 PB.out
      rw [HQ0.out]
      rintro e_ a_ W3900 ⟨rfl, Aj2, cj2, Ajq, cjq, g39, u364, u365, u366, u367, u368, u369, u370, u371, u372, u373, u374, u375, rfl, hC⟩
      clear C HQ0
      have C := Aside0.mk hC
      simp only [Exit.then]
      clear hC
      subst hF
      simp only [puts, List.foldl, Act.put, List.setIfInBounds_toArray, List.set_cons_zero, List.set_cons_succ]
      obtain ⟨a0, a1, a2, a3⟩ := C.out.ans (g := g39) (q0 := true) (q1 := 0) (q2 := 0) (A := Ajq) (c := cjq) (ps := be) (by simp)
      go_wp2
      rw [HQJ.out]
      refine ⟨rfl, Ajq, cjq, ?_⟩
      (repeat apply Exists.intro)
      refine ⟨by (try simp only [puts, List.foldl, Act.put, List.setIfInBounds_toArray, List.set_cons_zero, List.set_cons_succ]); (try rfl), ?_⟩
      exact (C.out.ofAns (g := g39) (q0 := true) (q1 := 0) (q2 := 0) (A := Ajq) (c := cjq) (ps := be) (by simp)).sub (by simp) (by simp)
    · have HE := HF.out.rng39' hlt
      go_wp2
      rw [HQJ.out]
      refine ⟨rfl, none, 0, ?_⟩
      rw [HE]
      (repeat apply Exists.intro)
      refine ⟨by (try simp only [puts, List.foldl, Act.put, List.setIfInBounds_toArray, List.set_cons_zero, List.set_cons_succ]); (try rfl), ?_⟩
      exact C.out.row (Kd.R_nil _ _ _ _ _)
  rw [HQJ.out]
  rintro e_ a_ W41 ⟨rfl, Abe, cbe, u45, u46, u47, u360, u361, u362, u363, u364, u365, u366, u367, u368, u369, u370, u371, u372, u373, u374, u375, u376, u377, rfl, hC⟩
  clear C HQJ
  have C := Aside0.mk hC
  refine hKJ _ _ ?_
  clear hKJ hC
  subst hFJ
  simp only [puts, List.foldl, Act.put, List.setIfInBounds_toArray, List.set_cons_zero, List.set_cons_succ]
  as_aux_lemma =>
  obtain ⟨a0, a1, a2, a3⟩ := C.out.ans (g := g28) (q0 := lw.f0) (q1 := lw.f1) (q2 := lw.f2) (A := Alp) (c := clp) (ps := lw.f3) (by simp)
  have hw1 : IntKind.i64.wrap ((fl.length : Int) - 1) = (fl.length : Int) - 1 := IntWalk.i64_in _ (by have := HF.out.small_fl; omega)
  have hw2 : IntKind.i64.wrap ((be.length : Int) - 1) = (be.length : Int) - 1 := IntWalk.i64_in _ (by have := HF.out.small_be; omega)
  go_wp2_with (first
    | (go_at_call 24; (with_reducible refine (larchlaw06_end.calls k Af cf fl 0 lw.f0 lw.f1 lw.f2 Alp clp lw.f3 true W41 (C.out.rowC (A := Af) (c := cf) (l := fl) (by simp)).1 (C.out.rowC (A := Af) (c := cf) (l := fl) (by simp)).2 (C.out.ansC (g := g28) (q0 := lw.f0) (q1 := lw.f1) (q2 := lw.f2) (A := Alp) (c := clp) (ps := lw.f3) (by simp)).1 (C.out.ansC (g := g28) (q0 := lw.f0) (q1 := lw.f1) (q2 := lw.f2) (A := Alp) (c := clp) (ps := lw.f3) (by simp)).2 HF.out.end1).mono ?_); rintro e_ v1 ⟨rfl, hb⟩; have C1 := Aside0.mk (C.out.below hb); clear hb a0 a1 a2 a3; obtain ⟨b0, b1, b2, b3⟩ := C1.out.ans (g := g29) (q0 := hg.f0) (q1 := hg.f1) (q2 := hg.f2) (A := Ahp) (c := chp) (ps := hg.f3) (by simp))
    | (go_at_call 24; (with_reducible refine (larchlaw06_end.calls k Af cf fl ((fl.length : Int) - 1) hg.f0 hg.f1 hg.f2 Ahp chp hg.f3 true v1 (C1.out.rowC (A := Af) (c := cf) (l := fl) (by simp)).1 (C1.out.rowC (A := Af) (c := cf) (l := fl) (by simp)).2 (C1.out.ansC (g := g29) (q0 := hg.f0) (q1 := hg.f1) (q2 := hg.f2) (A := Ahp) (c := chp) (ps := hg.f3) (by simp)).1 (C1.out.ansC (g := g29) (q0 := hg.f0) (q1 := hg.f1) (q2 := hg.f2) (A := Ahp) (c := chp) (ps := hg.f3) (by simp)).2 HF.out.end2).mono ?_); rintro e_ v2 ⟨rfl, hb⟩; have C2 := Aside0.mk (C1.out.below hb); clear hb b0 b1 b2 b3; obtain ⟨c0, c1, c2, c3⟩ := C2.out.ans (g := g30) (q0 := nx.f0) (q1 := nx.f1) (q2 := nx.f2) (A := Anp2) (c := cnp2) (ps := nx.f3) (by simp))
    | (go_at_call 24; (with_reducible refine (larchlaw06_end.calls k Aab cab ab 0 nx.f0 nx.f1 nx.f2 Anp2 cnp2 nx.f3 true v2 (C2.out.rowC (A := Aab) (c := cab) (l := ab) (by simp)).1 (C2.out.rowC (A := Aab) (c := cab) (l := ab) (by simp)).2 (C2.out.ansC (g := g30) (q0 := nx.f0) (q1 := nx.f1) (q2 := nx.f2) (A := Anp2) (c := cnp2) (ps := nx.f3) (by simp)).1 (C2.out.ansC (g := g30) (q0 := nx.f0) (q1 := nx.f1) (q2 := nx.f2) (A := Anp2) (c := cnp2) (ps := nx.f3) (by simp)).2 HF.out.end3).mono ?_); rintro e_ v3 ⟨rfl, hb⟩; have C3 := Aside0.mk (C2.out.below hb); clear hb c0 c1 c2 c3; obtain ⟨d0, d1, d2, d3⟩ := C3.out.ans (g := g31) (q0 := bk.f0) (q1 := bk.f1) (q2 := bk.f2) (A := Abp) (c := cbp) (ps := bk.f3) (by simp))
    | (go_at_call 24; (with_reducible refine (larchlaw06_end.calls k Abe cbe be ((be.length : Int) - 1) bk.f0 bk.f1 bk.f2 Abp cbp bk.f3 true v3 (C3.out.rowC (A := Abe) (c := cbe) (l := be) (by simp)).1 (C3.out.rowC (A := Abe) (c := cbe) (l := be) (by simp)).2 (C3.out.ansC (g := g31) (q0 := bk.f0) (q1 := bk.f1) (q2 := bk.f2) (A := Abp) (c := cbp) (ps := bk.f3) (by simp)).1 (C3.out.ansC (g := g31) (q0 := bk.f0) (q1 := bk.f1) (q2 := bk.f2) (A := Abp) (c := cbp) (ps := bk.f3) (by simp)).2 HF.out.end4).mono ?_); rintro e_ v4 ⟨rfl, hb⟩; have C4 := Aside0.mk (C3.out.below hb); clear hb d0 d1 d2 d3))
  go_ret
  exact ⟨rfl, C4.out.bel⟩
end Go.Proofs.Ytanlnfcjdjamaaa.P
