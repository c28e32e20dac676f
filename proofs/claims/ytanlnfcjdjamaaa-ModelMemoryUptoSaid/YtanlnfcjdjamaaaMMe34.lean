/- P.modelMemory_holds, part 35 of 37: the contracts of the Go functions that the law calls, its own walk, and its plain law, for every input that the statement speaks of. -/
import Derived.Test.YtanlnfcjdjamaaaMMe30
import Derived.Test.YtanlnfcjdjamaaaMMe33
import Derived.Test.YtanlnfcjdjamaaaMMe2
import Derived.Test.YtanlnfcjdjamaaaMMe26
import Derived.Test.YtanlnfcjdjamaaaMMe3
import Derived.Test.YtanlnfcjdjamaaaMMe8
import Derived.Test.YtanlnfcjdjamaaaMMe17
import Derived.Test.YtanlnfcjdjamaaaMMe25
import Derived.Test.YtanlnfcjdjamaaaMMe24
import Derived.Test.YtanlnfcjdjamaaaMMe19
set_option linter.unusedVariables false
set_option linter.unusedSimpArgs false
/- E24 -/
namespace Go.Proofs.Ytanlnfcjdjamaaa.P
open Go.RowKit Go.Proofs.YtanlnfcjdjamaaaW.PrintWords Go.Proofs.YtanlnfcjdjamaaaW.PrintLast Go.Proofs.YtanlnfcjdjamaaaW.PrintMore
attribute [local go_sem high] eqA25
structure Mem (k : Nat) (m nn : List S51) (ops : List S25) (o0 o1 o2 o3 kk hh : Int) (ru : List S51) (rs : List S27) (re : Int) (dl : List S51) (g0 : Bool) (g1 g2 : Int) (gp : List S51) (de : Int) (pl : List S51) (pe : Int) (fl : List S51) (df : List Int) (dfe fi : Int) (fb : Bool) (fe : Int) (ru2 : List S51) (rs2 : List S27) (re2 : Int) : Prop where
  fixed : larchlaw06_fixed.f k = some true
  small : m.length < 100000000
  smalln : nn.length < 100000000
  rrun : larchref06_Run.f k m ops = some (ru, rs, re)
  run : model_Run.f m ops = some (ru, rs, re)
  rdo : larchref06_Do.f k m o0 o1 o2 o3 = some (dl, g0, g1, g2, gp, de)
  do_ : model_Do.f m o0 o1 o2 o3 = some (dl, g0, g1, g2, gp, de)
  rpart : larchref06_Part.f k m kk hh = some (pl, pe)
  part : model_Part.f k m kk hh = some (pl, pe)
  rof : larchref06_Of.f k m = some fl
  of_ : model_Of.f m = some fl
  diff : model_Differ.f k m nn = some (df, dfe)
  find : model_Find.f k m kk = some (fi, fb, fe)
  same : ∀ l : List S51, l.length ≤ 1000 → larchref06_Same.f k l l = some true
  srets : larchref06_SameRets.f k rs rs = some true
  sret : larchref06_SameRet.f k g0 g1 g2 gp g0 g1 g2 gp = some true
  lens : ru.length ≤ 1000 ∧ dl.length ≤ 1000 ∧ pl.length ≤ 1000 ∧ fl.length ≤ 1000 ∧ gp.length ≤ 1000 ∧ rs.length ≤ 300 ∧ ∀ r ∈ rs, r.f3.length ≤ 1000
  run2 : model_Run.f (spL m.length m) ops = some (ru2, rs2, re2)
  rrun2 : larchref06_Run.f k (spL m.length m) ops = some (ru2, rs2, re2)
  srets2 : larchref06_SameRets.f k rs2 rs2 = some true
  len2 : ru2.length ≤ 1000
theorem info22 : (Try.prog.info? 22).map (fun i => (i.zero, i.size, i.bytes)) = some (some (.slice none 0 0), 1, 24) := by kernel_rfl
theorem under54 : Try.prog.underlying 54 = some (.slice 22) := by kernel_rfl
theorem heap51m : Kd.Heap k51 := Kd.heap_iso _ (Kd.heap_pair (Kd.heap_int _) (Kd.heap_int _))
theorem lit_sls {W : World} {g : Nat} (ss : List Sl) (hn : ss.length ≤ 1000) (h : W.heap[g]? = some (.cells (ss.map encSl).toArray 22 (0, 0))) : Kd.C kSl W (some ⟨g, 0, none⟩) ss.length ss := by
  refine ⟨rfl, by omega, fun _ => ⟨_, rfl, fun j p hj => ?_⟩⟩
  refine ⟨[encSl p], rfl, by first | exact rfl | exact ⟨rfl⟩ | simp [kSl, Kd.scalar], fun i u hu => ?_⟩
  match i, hu with
  | 0, hu =>
    simp at hu
    subst hu
    rw [add_plain, blk_cell h]
    simp [show kSl.sz = 1 from rfl, hj]
  | i + 1, hu => simp at hu
theorem lit_pairs {W : World} {g : Nat} {a b c d : Int} (h : W.heap[g]? = some (.cells #[.int .i64 a, .int .i64 b, .int .i64 c, .int .i64 d] 51 (0, 0))) : Kd.C k51 W (some ⟨g, 0, none⟩) 2 [⟨a, b⟩, ⟨c, d⟩] := by
  refine ⟨rfl, by decide, fun _ => ⟨_, rfl, fun j p hj => ?_⟩⟩
  refine ⟨[.int .i64 p.f0, .int .i64 p.f1], rfl, k51_mk W p, fun i u hu => ?_⟩
  rw [add_plain, blk_cell h]
  match j, hj with
  | 0, hj => simp at hj; subst hj; match i, hu with
    | 0, hu => simpa using hu
    | 1, hu => simpa using hu
    | i + 2, hu => simp at hu
  | 1, hj => simp at hj; subst hj; match i, hu with
    | 0, hu => exact hu
    | 1, hu => exact hu
    | i + 2, hu => simp at hu
  | j + 2, hj => simp at hj
theorem lit_op {W : World} {g : Nat} {a b c d : Int} (h : W.heap[g]? = some (.cells #[.int .i64 a, .int .i64 b, .int .i64 c, .int .i64 d] 25 (0, 0))) : Kd.C k25 W (some ⟨g, 0, none⟩) 1 [⟨a, b, c, d⟩] := by
  refine ⟨rfl, by decide, fun _ => ⟨_, rfl, fun j p hj => ?_⟩⟩
  refine ⟨[.int .i64 p.f0, .int .i64 p.f1, .int .i64 p.f2, .int .i64 p.f3], rfl, k25_mk W p, fun i u hu => ?_⟩
  rw [add_plain, blk_cell h]
  match j, hj with
  | 0, hj => simp at hj; subst hj; match i, hu with
    | 0, hu => simpa using hu
    | 1, hu => simpa using hu
    | 2, hu => simpa using hu
    | 3, hu => simpa using hu
    | i + 4, hu => simp at hu
  | j + 1, hj => simp at hj
theorem headOf {A : Option Addr} {n c m : Nat} {Q : Nat → Nat → Prop} (h : ∃ g c', Value.slice A n c = .slice (some ⟨g, 0, none⟩) m c' ∧ Q g c') : ∃ g, A = some ⟨g, 0, none⟩ := by
  obtain ⟨g, c', e, -⟩ := h
  cases e
  exact ⟨g, rfl⟩
theorem lit_grown {W w1 : World} {row : Option Nat} {g : Nat} {o : Obj} (hg : W.grownBy w1 row) (h : W.heap[g]? = some o) (hne : some g ≠ row) : w1.heap[g]? = some o := (hg.block g (blk_lt h) hne).trans h
theorem size_ad (W : World) (o : Obj) : (W.alloc o).heap.size = W.heap.size + 1 := Array.size_push ..
section
variable {W : World} {n : Nat} {A0 A1 B2 B3 A4 : Option Addr} {n0 n1 n2 n3 n4 c0 c1 d2 d3 c4 : Nat} {o0 o1 o2 o3 : Int} {b : Bool} {q1 q2 kk hh : Int}
theorem boxm0 (h : W.heap[n]? = some (.cells (boxL A0 A1 B2 B3 A4 n0 n1 n2 n3 n4 c0 c1 d2 d3 c4 o0 o1 o2 o3 b q1 q2 kk hh) 29 (0, 0))) : W.cell? ⟨n, 0, none⟩ = some (.slice A0 n0 c0) := (blk_cell h 0).trans rfl
theorem boxm1 (h : W.heap[n]? = some (.cells (boxL A0 A1 B2 B3 A4 n0 n1 n2 n3 n4 c0 c1 d2 d3 c4 o0 o1 o2 o3 b q1 q2 kk hh) 29 (0, 0))) : W.cell? ⟨n, 1, none⟩ = some (.slice A1 n1 c1) := (blk_cell h 1).trans rfl
theorem boxm2 (h : W.heap[n]? = some (.cells (boxL A0 A1 B2 B3 A4 n0 n1 n2 n3 n4 c0 c1 d2 d3 c4 o0 o1 o2 o3 b q1 q2 kk hh) 29 (0, 0))) : W.cell? ⟨n, 2, none⟩ = some (.slice B2 n2 d2) := (blk_cell h 2).trans rfl
theorem boxm4 (h : W.heap[n]? = some (.cells (boxL A0 A1 B2 B3 A4 n0 n1 n2 n3 n4 c0 c1 d2 d3 c4 o0 o1 o2 o3 b q1 q2 kk hh) 29 (0, 0))) : W.cell? ⟨n, 4, none⟩ = some (.int .i64 o0) ∧ W.cell? ⟨n, 5, none⟩ = some (.int .i64 o1) ∧ W.cell? ⟨n, 6, none⟩ = some (.int .i64 o2) ∧ W.cell? ⟨n, 7, none⟩ = some (.int .i64 o3) := ⟨(blk_cell h 4).trans rfl, (blk_cell h 5).trans rfl, (blk_cell h 6).trans rfl, (blk_cell h 7).trans rfl⟩
theorem boxm12 (h : W.heap[n]? = some (.cells (boxL A0 A1 B2 B3 A4 n0 n1 n2 n3 n4 c0 c1 d2 d3 c4 o0 o1 o2 o3 b q1 q2 kk hh) 29 (0, 0))) : W.cell? ⟨n, 12, none⟩ = some (.int .i64 kk) ∧ W.cell? ⟨n, 13, none⟩ = some (.int .i64 hh) := ⟨(blk_cell h 12).trans rfl, (blk_cell h 13).trans rfl⟩
end
theorem make0_all {P : Program} {α : Type} (d : Kd α) (t e : TypeId) (n : Nat)
    (ht : P.underlying t = some (.slice e)) (z : Value) (bytes : Nat) (hinfo : (P.info? e).map (fun i => (i.zero, i.size, i.bytes)) = some (some z, d.sz, bytes)) (hl : bytes * n ≤ 140737488355328 ∧ n ≤ 140737488355328) :
    ∃ o : Obj, ∀ W : World, (Instr.makeSlice t (.int .i64 0) (.int .i64 (n : Int))).run P W = .ok (.slice (some ⟨W.heap.size, 0, none⟩) 0 n) (W.alloc o) ∧ ∀ (base : Nat) (ok : Nat → Prop), base ≤ W.heap.size → ok W.heap.size → d.R e (W.alloc o) base ok (.slice (some ⟨W.heap.size, 0, none⟩) 0 n) [] := by
  obtain ⟨i0, hi, hzz⟩ := Option.map_eq_some_iff.1 hinfo
  simp only [Prod.mk.injEq] at hzz
  obtain ⟨hz0, hz1, hz2⟩ := hzz
  refine ⟨.cells (madeCells z.cells (n * i0.size)) e, fun W => ⟨?_, fun base ok hb hf => ⟨fun k hk => ?_, [], ?_, Reps.none _ _⟩⟩⟩
  · have hr := run_make (P := P) W t e i0 z ht hi hz0 .i64 .i64 0 (n : Int) (Int.le_refl _) (by omega) (by
      have h3 : ((i0.bytes * n : Nat) : Int) ≤ 281474976710656 := by rw [hz2]; omega
      rwa [Int.natCast_mul] at h3) (by omega)
    simpa using hr
  · simp [Value.ownBlock] at hk
    subst hk
    exact hf
  · rw [← hz1]
    exact World.ownsRow_made W _ n hb (by unfold maxLen; omega) (size_madeCells _ _)
set_option maxHeartbeats 100000000 in
set_option maxRecDepth 100000 in
theorem larchlaw06_ModelMemory_calls (k : Nat) (A0 A1 A2 A3 A4 : Option Addr) (c0 c1 c2 c3 c4 : Nat) (l0 l1 : List S51) (l2 l3 : List S25) (o0 o1 o2 o3 : Int) (b : Bool) (q1 q2 : Int) (ps : List S51) (kk hh : Int) (ru : List S51) (rs : List S27) (re : Int) (dl : List S51) (g0 : Bool) (g1 g2 : Int) (gp : List S51) (de : Int) (pl : List S51) (pe : Int) (fl : List S51) (df : List Int) (dfe fi : Int) (fb : Bool) (fe : Int) (ru2 : List S51) (rs2 : List S27) (re2 : Int) (w : World)
    (h0 : l0.length ≤ c0) (hr0 : Kd.C k51 w A0 l0.length l0) (h1 : l1.length ≤ c1) (hr1 : Kd.C k51 w A1 l1.length l1) (h2 : l2.length ≤ c2) (hr2 : Kd.C k25 w A2 l2.length l2) (h3 : l3.length ≤ c3) (hr3 : Kd.C k25 w A3 l3.length l3) (h4 : ps.length ≤ c4) (hr4 : Kd.C k51 w A4 ps.length ps)
    (h : Mem k (l0.take 300) (l1.take 300) (l2.take 300) o0 o1 o2 o3 kk hh ru rs re dl g0 g1 g2 gp de pl pe fl df dfe fi fb fe ru2 rs2 re2) :
    Calls Try.prog 5 #[.agg #[.slice A0 l0.length c0, .slice A1 l1.length c1, .slice A2 l2.length c2, .slice A3 l3.length c3, .int .i64 o0, .int .i64 o1, .int .i64 o2, .int .i64 o3, .bool b, .int .i64 q1, .int .i64 q2, .slice A4 ps.length c4, .int .i64 kk, .int .i64 hh]] w fun e w' => e = .returned (.bool true) ∧ Below w.heap.size w w' := by
  have hu25 := Try.underlying25
  have hu27 := Try.underlying27
  have hu51 := Try.underlying51
  have hu29 := Try.underlying29
  have hl0 : l0.length ≤ 9223372036854775807 := hr0.2.1
  have hl1 : l1.length ≤ 9223372036854775807 := hr1.2.1
  obtain ⟨m, hm⟩ : ∃ m, m = l0.take 300 := ⟨_, rfl⟩
  obtain ⟨nn, hnn⟩ : ∃ nn, nn = l1.take 300 := ⟨_, rfl⟩
  obtain ⟨ops, hops⟩ : ∃ ops, ops = l2.take 300 := ⟨_, rfl⟩
  obtain ⟨more, hmore⟩ : ∃ more, more = l3.take 300 := ⟨_, rfl⟩
  have hmm : m.length = min l0.length 300 := by rw [hm, List.length_take, Nat.min_comm]
  have hnm : nn.length = min l1.length 300 := by rw [hnn, List.length_take, Nat.min_comm]
  have hrm : Kd.C k51 w A0 m.length m := by rw [hm]; exact take_C hr0 300
  have hrn : Kd.C k51 w A1 nn.length nn := by rw [hnn]; exact take_C hr1 300
  have hmc : m.length ≤ c0 := by rw [hmm]; omega
  have hnc : nn.length ≤ c1 := by rw [hnm]; omega
  rw [← hm, ← hnn, ← hops] at h
  have HF := Aside0.mk h
  have HL := less_calls A0 A1 A2 A3 c0 c1 c2 c3 l0 l1 l2 l3 o0 o1 o2 o3 b q1 q2 A4 ps.length c4 kk hh
  rw [← hops, ← hmore] at HL
  have HMM := Aside0.mk hmm
  have HNM := Aside0.mk hnm
  have HMC := Aside0.mk hmc
  have HNC := Aside0.mk hnc
  have HRM := Aside0.mk hrm
  have HRN := Aside0.mk hrn
  have HR2 := Aside0.mk hr2
  have HR3 := Aside0.mk hr3
  have HR4 := Aside0.mk hr4
  have HLL := Aside0.mk HL
  have HQ := Aside0.mk (And.intro h0 (And.intro h1 (And.intro h2 (And.intro h3 (And.intro h4 (And.intro hl0 hl1))))))
  have HLEN : Aside0 (m.length ≤ 300 ∧ nn.length ≤ 300 ∧ ops.length ≤ 300) := ⟨by rw [hmm]; omega, by rw [hnm]; omega, by rw [hops, List.length_take]; omega⟩
  clear h hm hmm hmc hnn hnm hrn hnc hrm hr0 hr1 hr2 hr3 hr4 HL h0 h1 h2 h3 h4 hl0 hl1 hops hmore
  obtain ⟨Wa, hWa⟩ : ∃ Wa, Wa = w.alloc (.cells #[.slice A0 l0.length c0, .slice A1 l1.length c1, .slice A2 l2.length c2, .slice A3 l3.length c3, .int .i64 o0, .int .i64 o1, .int .i64 o2, .int .i64 o3, .bool b, .int .i64 q1, .int .i64 q2, .slice A4 ps.length c4, .int .i64 kk, .int .i64 hh] 29) := ⟨_, rfl⟩
  have hBa : Below w.heap.size w Wa := by rw [hWa]; exact below_alloc (Below.refl _ _) _
  have hXa : Wa.heap[w.heap.size]? = some (.cells #[.slice A0 l0.length c0, .slice A1 l1.length c1, .slice A2 l2.length c2, .slice A3 l3.length c3, .int .i64 o0, .int .i64 o1, .int .i64 o2, .int .i64 o3, .bool b, .int .i64 q1, .int .i64 q2, .slice A4 ps.length c4, .int .i64 kk, .int .i64 hh] 29 (0, 0)) := by rw [hWa]; exact blk_new w _
  have HWA := Aside0.mk hWa
  have HBA := Aside0.mk hBa
  have HXA := Aside0.mk hXa
  clear hWa hBa hXa
  go_enter Try.func5, Try.ntmps5
  go_wp2_with (first
    | (go_at_call 7; rw [← HWA.out]; (with_reducible refine (larchlaw06_fixed.calls k true Wa HF.out.fixed).mono ?_); rintro e_ w1 ⟨rfl, hb⟩; have HX1 := Aside0.mk (blk_below HXA.out hb); have HB1 := Aside0.mk (below_step HBA.out hb);  clear hb)
    | (go_at_call 8; (with_reducible refine (HLL.out w1 HQ.out.1 HQ.out.2.1 HQ.out.2.2.2.2.2.1 HQ.out.2.2.2.2.2.2 HQ.out.2.2.1 HQ.out.2.2.2.1 (Kd.C_below HR2.out HB1.out) (Kd.C_below HR3.out HB1.out)).mono ?_); rintro e_ w2 ⟨n0, n1, B2, d2, B3, d3, rfl, hn0, hn1, hc2, hc3, hb⟩; rw [← HMM.out] at hn0; rw [← HNM.out] at hn1; subst hn0; subst hn1; have HX2 := Aside0.mk (blk_below HX1.out hb); have HB2 := Aside0.mk (below_step HB1.out hb); have HO2 := Aside0.mk (Kd.R_types hc2 HX2.out (by decide)); have S1 : Aside0 (w2.there w.heap.size 0 (#[.slice A0 m.length c0, .slice A1 nn.length c1, .slice B2 ops.length d2, .slice B3 more.length d3, .int .i64 o0, .int .i64 o1, .int .i64 o2, .int .i64 o3, .bool b, .int .i64 q1, .int .i64 q2, .slice A4 ps.length c4, .int .i64 kk, .int .i64 hh] : Array Value).size) := ⟨blk_there HX2.out (Nat.le_refl _)⟩; have S3 : Aside0 ((#[.slice A0 m.length c0, .slice A1 nn.length c1, .slice B2 ops.length d2, .slice B3 more.length d3, .int .i64 o0, .int .i64 o1, .int .i64 o2, .int .i64 o3, .bool b, .int .i64 q1, .int .i64 q2, .slice A4 ps.length c4, .int .i64 kk, .int .i64 hh] : Array Value).all (·.oneCell') = true) := ⟨by first | (simp [Value.oneCell']; done) | kernel_rfl⟩; clear hb hc2 hc3)
    | ((with_reducible refine gate_ (.load 29 (.tmp 1)) rfl ?_); (refine wpList_load_mid rfl 29 (.tmp 1) rfl w.heap.size 0 rfl [.slice A0 l0.length c0, .slice A1 l1.length c1, .slice A2 l2.length c2, .slice A3 l3.length c3, .int .i64 o0, .int .i64 o1, .int .i64 o2, .int .i64 o3, .bool b, .int .i64 q1, .int .i64 q2, .slice A4 ps.length c4, .int .i64 kk, .int .i64 hh] _ (blk_range HX1.out) Try.underlying29 rfl (by kernel_rfl) ?_))
    | ((with_reducible refine gate_ (.store 29 (.tmp 1) (.tmp 46)) rfl ?_); (refine wpList_store_mid rfl 29 (.tmp 1) (.tmp 46) rfl w.heap.size 0 #[.slice A0 m.length c0, .slice A1 nn.length c1, .slice B2 ops.length d2, .slice B3 more.length d3, .int .i64 o0, .int .i64 o1, .int .i64 o2, .int .i64 o3, .bool b, .int .i64 q1, .int .i64 q2, .slice A4 ps.length c4, .int .i64 kk, .int .i64 hh] rfl rfl S1.out (by kernel_rfl) S3.out ?_); obtain ⟨W3, hW3⟩ : ∃ W3, W3 = w2.setCells w.heap.size 0 [.slice A0 m.length c0, .slice A1 nn.length c1, .slice B2 ops.length d2, .slice B3 more.length d3, .int .i64 o0, .int .i64 o1, .int .i64 o2, .int .i64 o3, .bool b, .int .i64 q1, .int .i64 q2, .slice A4 ps.length c4, .int .i64 kk, .int .i64 hh] := ⟨_, rfl⟩; have C : Aside0 (Cy w W3 (boxL A0 A1 B2 B3 A4 m.length nn.length ops.length more.length ps.length c0 c1 d2 d3 c4 o0 o1 o2 o3 b q1 q2 kk hh) [] []) := ⟨⟨by rw [hW3]; exact blk_fill HX2.out rfl, by rw [hW3]; exact fill_below HB2.out (Nat.le_refl _), fun r hr => by simp at hr, fun r hr => by simp at hr⟩⟩; have OP : Aside0 (Kd.R k25 25 W3 w.heap.size (fun _ => True) (.slice B2 ops.length d2) ops) := ⟨by rw [hW3]; exact Kd.R_lower (Kd.R_mono (Kd.R_step HO2.out (fun k ho _ => setCells_far _ 0 k ho.2)) (fun _ _ => trivial)) HB1.out.size⟩; rw [← hW3]; clear hW3 HB1 HB2 HX1 HX2 HXA HBA HWA HLL HO2 S1 S3))
  simp only [Act.put]
  obtain ⟨om, hom⟩ := make0_all (P := Try.prog) k51 22 51 (m.length + 2) Try.underlying22 (.agg #[(.int .i64 0), (.int .i64 0)]) 16 info51 (by have := HLEN.out; omega)
  have hmk : ∀ W : World, (Instr.makeSlice 22 (.int .i64 0) (.int .i64 ((m.length : Int) + 2))).run Try.prog W = .ok (.slice (some ⟨W.heap.size, 0, none⟩) 0 (m.length + 2)) (W.alloc om) := fun W => (hom W).1
  have RM := Aside0.mk (fun W => (hom W).2)
  clear hom
  have hw4 : IntKind.i64.wrap ((m.length : Int) + 2) = (m.length : Int) + 2 := IntWalk.i64_in _ (by have := HLEN.out; omega)
  obtain ⟨mx, hmx⟩ : ∃ mx, mx = m ++ [⟨71, 0⟩, ⟨72, 0⟩] := ⟨_, rfl⟩
  have HXmx := Aside0.mk hmx
  clear hmx
  rename_i KK hKK
  refine wp_named fun F hF => ?_
  obtain ⟨Q0, hQ0⟩ : ∃ Q0 : Exit → Act → World → Prop, Q0 = (fun (e : Exit) (a' : Act) (W : World) => e = .normal ∧ ∃ (Amx : Option Addr) (cmx : Nat) (u47 u48 u49 u50 u51 u52 u53 u54 u55 u56 u57 u58 : Value), a' = puts F [(3, .slice Amx mx.length cmx), (47, u47), (48, u48), (49, u49), (50, u50), (51, u51), (52, u52), (53, u53), (54, u54), (55, u55), (56, u56), (57, u57), (58, u58)] ∧ Cy w W (boxL A0 A1 B2 B3 A4 m.length nn.length ops.length more.length ps.length c0 c1 d2 d3 c4 o0 o1 o2 o3 b q1 q2 kk hh) [] [] ∧ Below W3.heap.size W3 W ∧ Kd.R k51 51 W w.heap.size (fun _ => True) (.slice Amx mx.length cmx) mx) := ⟨_, rfl⟩
  have HQ0 := Aside0.mk hQ0
  clear hQ0
  refine Code.wp_mono (Q := Q0) ?tail4 ?walk4
  case walk4 =>
    subst hF
    clear hKK
    go_region_held3 (fun W' => W'.cell? ⟨w.heap.size, 0, none⟩ = some (.slice A0 m.length c0)) (first | (with_reducible exact boxm0 C.out.box) | (with_reducible exact boxm0 C.out.drew.box) | (with_reducible exact boxm0 (C.out.alloc _).drew.box) | (with_reducible exact boxm0 (C.out.drew.alloc _).box) | (with_reducible exact boxm0 ((C.out.drew.alloc _).alloc _).box) | (with_reducible exact boxm0 ((C.out.alloc _).alloc _).drew.box) | (with_reducible exact boxm0 CA.out.box) | (with_reducible exact boxm0 (CA.out.alloc _).box) | (with_reducible exact boxm0 CB.out.box)) (first
      | (refine Kd.R_append_rows_step k51 (w0 := W3) W3.heap.size (by rfl) (.tmp 51) (.tmp 53) 22 51 (.agg #[(.int .i64 0), (.int .i64 0)]) 16 rfl Try.underlying22 info51 rfl (by decide) (by omega) _ [] m _ _ _ (fun _ => True) (fun _ => False) rfl rfl ?aO (Rr := fun x cs => k51.K w x cs) ?aR (fun _ _ h => h) (fun _ h => h.elim) (fun _ _ => trivial) ?aB ?aS ?aL ?_; (case aL => have := HLEN.out; simp; omega); (case aB => first | (with_reducible exact below_drew1 (below_alloc (Below.refl _ _) _)) | (with_reducible exact below_drew1 (below_alloc (below_alloc (Below.refl _ _) _) _))); (case aS => first | (with_reducible exact (below_drew1 (below_alloc (Below.refl _ _) _)).size) | (with_reducible exact (below_drew1 (below_alloc (below_alloc (Below.refl _ _) _) _)).size)); (case aR => first | exact Kd.C_below HRM.out (below_step C.out.bel (below_drew1 (below_alloc (Below.refl _ _) _))) | exact Kd.C_below HRM.out (below_step C.out.bel (below_drew1 (below_alloc (below_alloc (Below.refl _ _) _) _)))); (case aO => first | exact Kd.R_drew (RM.out W3 _ _ (Nat.le_refl _) trivial) | exact Kd.R_drew (Kd.R_alloc (RM.out W3 _ _ (Nat.le_refl _) trivial) _) | (have h_ := RM.out (W3.alloc (.cells #[.int .i64 71, .int .i64 0, .int .i64 72, .int .i64 0] 51)) W3.heap.size (fun _ => True) (below_alloc (Below.refl _ _) _).size trivial; rw [size_ad] at h_; exact Kd.R_drew h_)); intro v1 wA ho hb hg hat; have CA := Aside0.mk (C.out.below hb); rw [List.nil_append] at ho; obtain ⟨A5, c5, rfl⟩ := Kd.R_slice ho; have RA := Aside0.mk ho; have BA := Aside0.mk hb; (first | (have T : Aside0 (wA.heap[W3.heap.size + 1]? = some (.cells #[.int .i64 71, .int .i64 0, .int .i64 72, .int .i64 0] 51 (0, 0))) := ⟨by rw [← size_ad W3 om]; refine lit_grown hg (by with_reducible exact blk_drew (blk_new (W3.alloc om) _)) ?_; intro he; have h2 : some (W3.alloc om).heap.size = some W3.drew.heap.size := he; rw [size_ad] at h2; injection h2 with h2; exact absurd h2 (Nat.succ_ne_self _)⟩) | (have T : Aside0 (wA.heap[W3.heap.size]? = some (.cells #[.int .i64 71, .int .i64 0, .int .i64 72, .int .i64 0] 51 (0, 0))) := ⟨by refine lit_grown hg (by with_reducible exact blk_drew (blk_alloc (blk_new W3 _) om)) ?_; intro he; have h2 : some W3.heap.size = some (W3.heap.size + 1) := he; injection h2 with h2; exact absurd h2.symm (Nat.succ_ne_self _)⟩) | (have T : Aside0 True := ⟨trivial⟩)); clear ho hb hg hat)
      | (refine Kd.R_append_rows_step k51 (w0 := W3) W3.heap.size (by rfl) (.tmp 54) (.tmp 57) 22 51 (.agg #[(.int .i64 0), (.int .i64 0)]) 16 rfl Try.underlying22 info51 rfl (by decide) (by omega) _ m [⟨71, 0⟩, ⟨72, 0⟩] _ _ _ (fun _ => True) (fun _ => False) rfl rfl ?aO (Rr := fun x cs => k51.K w x cs) ?aR (fun _ _ h => h) (fun _ h => h.elim) (fun _ _ => trivial) ?aB ?aS ?aL ?_; (case aL => have := HLEN.out; omega); (case aB => first | exact BA.out | exact below_alloc BA.out _); (case aS => first | exact BA.out.size | exact (below_alloc BA.out _).size); (case aR => first | exact lit_pairs T.out | exact lit_pairs (blk_new wA _)); (case aO => first | exact RA.out | exact Kd.R_alloc RA.out _); intro v2 wB ho hb hg hat; have CB := Aside0.mk (C.out.below hb); have BB := Aside0.mk hb; rw [← HXmx.out] at ho; obtain ⟨A6, c6, rfl⟩ := Kd.R_slice ho; have RB := Aside0.mk (Kd.R_lower ho C.out.bel.size); clear ho hb hg hat))
    all_goals rw [HQ0.out]
    all_goals refine ⟨rfl, A6, c6, ?_⟩
    · (repeat apply Exists.intro)
      refine ⟨by (try simp only [puts, List.foldl, Act.put, List.setIfInBounds_toArray, List.set_cons_zero, List.set_cons_succ]); rfl, ?_⟩
      exact ⟨CB.out, BB.out, RB.out⟩
    · (repeat apply Exists.intro)
      refine ⟨by (try simp only [puts, List.foldl, Act.put, List.setIfInBounds_toArray, List.set_cons_zero, List.set_cons_succ]); rfl, ?_⟩
      exact ⟨CB.out, BB.out, RB.out⟩
    · (repeat apply Exists.intro)
      refine ⟨by (try simp only [puts, List.foldl, Act.put, List.setIfInBounds_toArray, List.set_cons_zero, List.set_cons_succ]); rfl, ?_⟩
      exact ⟨CB.out, BB.out, RB.out⟩
  rw [HQ0.out]
  rintro e_ a_ W4 ⟨rfl, Amx, cmx, u47, u48, u49, u50, u51, u52, u53, u54, u55, u56, u57, u58, rfl, hC, hB, hRmx⟩
  clear C HQ0
  have C := Aside0.mk hC
  have OPn := Aside0.mk (Kd.R_below OP.out hB)
  clear OP
  have OP := OPn
  clear OPn
  have Rmx := Aside0.mk hRmx
  simp only [Exit.then]
  refine hKK _ _ ?_
  clear hKK hC hB hRmx
  subst hF
  simp only [puts, List.foldl, Act.put, List.setIfInBounds_toArray, List.set_cons_zero, List.set_cons_succ]
  clear hmk RM hw4
  obtain ⟨y0⟩ : Aside0 _ := ⟨boxm0 C.out.box⟩
  have hlx : m.length ≤ mx.length := by rw [HXmx.out]; simp
  have hcx : mx.length ≤ cmx := (Kd.R_reads' Rmx.out).2.1
  have hlm := HLEN.out.1
  go_wp2
  obtain ⟨om, hom⟩ := make0_all (P := Try.prog) k25 23 25 (ops.length + 1) Try.underlying23 (.agg #[(.int .i64 0), (.int .i64 0), (.int .i64 0), (.int .i64 0)]) 32 info25 (by have := HLEN.out; omega)
  have hmk : ∀ W : World, (Instr.makeSlice 23 (.int .i64 0) (.int .i64 ((ops.length : Int) + 1))).run Try.prog W = .ok (.slice (some ⟨W.heap.size, 0, none⟩) 0 (ops.length + 1)) (W.alloc om) := fun W => (hom W).1
  have RM := Aside0.mk (fun W => (hom W).2)
  clear hom
  have hw4 : IntKind.i64.wrap ((ops.length : Int) + 1) = (ops.length : Int) + 1 := IntWalk.i64_in _ (by have := HLEN.out; omega)
  obtain ⟨ox, hmx⟩ : ∃ ox, ox = ops ++ [⟨99, 0, 0, 0⟩] := ⟨_, rfl⟩
  have HXox := Aside0.mk hmx
  clear hmx
  rename_i KK hKK
  refine wp_named fun F hF => ?_
  obtain ⟨Q0, hQ0⟩ : ∃ Q0 : Exit → Act → World → Prop, Q0 = (fun (e : Exit) (a' : Act) (W : World) => e = .normal ∧ ∃ (Aox : Option Addr) (cox : Nat) (u64 u65 u66 u67 u68 u69 u70 u71 u72 u73 u74 : Value), a' = puts F [(5, .slice Aox ox.length cox), (64, u64), (65, u65), (66, u66), (67, u67), (68, u68), (69, u69), (70, u70), (71, u71), (72, u72), (73, u73), (74, u74)] ∧ Cy w W (boxL A0 A1 B2 B3 A4 m.length nn.length ops.length more.length ps.length c0 c1 d2 d3 c4 o0 o1 o2 o3 b q1 q2 kk hh) [] [] ∧ Below W4.heap.size W4 W ∧ Kd.R k25 25 W w.heap.size (fun _ => True) (.slice Aox ox.length cox) ox) := ⟨_, rfl⟩
  have HQ0 := Aside0.mk hQ0
  clear hQ0
  refine Code.wp_mono (Q := Q0) ?tail6 ?walk6
  case walk6 =>
    subst hF
    clear hKK
    go_region_held3 (fun W' => W'.cell? ⟨w.heap.size, 2, none⟩ = some (.slice B2 ops.length d2)) (first | (with_reducible exact boxm2 C.out.box) | (with_reducible exact boxm2 C.out.drew.box) | (with_reducible exact boxm2 (C.out.alloc _).drew.box) | (with_reducible exact boxm2 (C.out.drew.alloc _).box) | (with_reducible exact boxm2 ((C.out.drew.alloc _).alloc _).box) | (with_reducible exact boxm2 ((C.out.alloc _).alloc _).drew.box) | (with_reducible exact boxm2 CA.out.box) | (with_reducible exact boxm2 (CA.out.alloc _).box) | (with_reducible exact boxm2 CB.out.box)) (first
      | (refine Kd.R_append_rows_step k25 (w0 := W4) W4.heap.size (by rfl) (.tmp 68) (.tmp 70) 23 25 (.agg #[(.int .i64 0), (.int .i64 0), (.int .i64 0), (.int .i64 0)]) 32 rfl Try.underlying23 info25 rfl (by decide) (by omega) _ [] ops _ _ _ (fun _ => True) (fun _ => False) rfl rfl ?aO (Rr := fun x cs => k25.K w x cs) ?aR (fun _ _ h => h) (fun _ h => h.elim) (fun _ _ => trivial) ?aB ?aS ?aL ?_; (case aL => have := HLEN.out; simp; omega); (case aB => first | (with_reducible exact below_drew1 (below_alloc (Below.refl _ _) _)) | (with_reducible exact below_drew1 (below_alloc (below_alloc (Below.refl _ _) _) _))); (case aS => first | (with_reducible exact (below_drew1 (below_alloc (Below.refl _ _) _)).size) | (with_reducible exact (below_drew1 (below_alloc (below_alloc (Below.refl _ _) _) _)).size)); (case aR => first | exact Kd.C_below (Kd.R_reads' OP.out).2.2 (below_drew1 (below_alloc (Below.refl _ _) _)) | exact Kd.C_below (Kd.R_reads' OP.out).2.2 (below_drew1 (below_alloc (below_alloc (Below.refl _ _) _) _))); (case aO => first | exact Kd.R_drew (RM.out W4 _ _ (Nat.le_refl _) trivial) | exact Kd.R_drew (Kd.R_alloc (RM.out W4 _ _ (Nat.le_refl _) trivial) _) | (have h_ := RM.out (W4.alloc (.cells #[.int .i64 99, .int .i64 0, .int .i64 0, .int .i64 0] 25)) W4.heap.size (fun _ => True) (below_alloc (Below.refl _ _) _).size trivial; rw [size_ad] at h_; exact Kd.R_drew h_)); intro v1 wA ho hb hg hat; have CA := Aside0.mk (C.out.below hb); rw [List.nil_append] at ho; obtain ⟨A5, c5, rfl⟩ := Kd.R_slice ho; have RA := Aside0.mk ho; have BA := Aside0.mk hb; (first | (have T : Aside0 (wA.heap[W4.heap.size + 1]? = some (.cells #[.int .i64 99, .int .i64 0, .int .i64 0, .int .i64 0] 25 (0, 0))) := ⟨by rw [← size_ad W4 om]; refine lit_grown hg (by with_reducible exact blk_drew (blk_new (W4.alloc om) _)) ?_; intro he; have h2 : some (W4.alloc om).heap.size = some W4.drew.heap.size := he; rw [size_ad] at h2; injection h2 with h2; exact absurd h2 (Nat.succ_ne_self _)⟩) | (have T : Aside0 (wA.heap[W4.heap.size]? = some (.cells #[.int .i64 99, .int .i64 0, .int .i64 0, .int .i64 0] 25 (0, 0))) := ⟨by refine lit_grown hg (by with_reducible exact blk_drew (blk_alloc (blk_new W4 _) om)) ?_; intro he; have h2 : some W4.heap.size = some (W4.heap.size + 1) := he; injection h2 with h2; exact absurd h2.symm (Nat.succ_ne_self _)⟩) | (have T : Aside0 True := ⟨trivial⟩)); clear ho hb hg hat)
      | (refine Kd.R_append_rows_step k25 (w0 := W4) W4.heap.size (by rfl) (.tmp 71) (.tmp 73) 23 25 (.agg #[(.int .i64 0), (.int .i64 0), (.int .i64 0), (.int .i64 0)]) 32 rfl Try.underlying23 info25 rfl (by decide) (by omega) _ ops [⟨99, 0, 0, 0⟩] _ _ _ (fun _ => True) (fun _ => False) rfl rfl ?aO (Rr := fun x cs => k25.K w x cs) ?aR (fun _ _ h => h) (fun _ h => h.elim) (fun _ _ => trivial) ?aB ?aS ?aL ?_; (case aL => have := HLEN.out; omega); (case aB => first | exact BA.out | exact below_alloc BA.out _); (case aS => first | exact BA.out.size | exact (below_alloc BA.out _).size); (case aR => first | exact lit_op T.out | exact lit_op (blk_new wA _)); (case aO => first | exact RA.out | exact Kd.R_alloc RA.out _); intro v2 wB ho hb hg hat; have CB := Aside0.mk (C.out.below hb); have BB := Aside0.mk hb; rw [← HXox.out] at ho; obtain ⟨A6, c6, rfl⟩ := Kd.R_slice ho; have RB := Aside0.mk (Kd.R_lower ho C.out.bel.size); clear ho hb hg hat))
    all_goals rw [HQ0.out]
    all_goals refine ⟨rfl, A6, c6, ?_⟩
    · (repeat apply Exists.intro)
      refine ⟨by (try simp only [puts, List.foldl, Act.put, List.setIfInBounds_toArray, List.set_cons_zero, List.set_cons_succ]); rfl, ?_⟩
      exact ⟨CB.out, BB.out, RB.out⟩
    · (repeat apply Exists.intro)
      refine ⟨by (try simp only [puts, List.foldl, Act.put, List.setIfInBounds_toArray, List.set_cons_zero, List.set_cons_succ]); rfl, ?_⟩
      exact ⟨CB.out, BB.out, RB.out⟩
    · (repeat apply Exists.intro)
      refine ⟨by (try simp only [puts, List.foldl, Act.put, List.setIfInBounds_toArray, List.set_cons_zero, List.set_cons_succ]); rfl, ?_⟩
      exact ⟨CB.out, BB.out, RB.out⟩
  rw [HQ0.out]
  rintro e_ a_ W6 ⟨rfl, Aox, cox, u64, u65, u66, u67, u68, u69, u70, u71, u72, u73, u74, rfl, hC, hB, hRox⟩
  clear C HQ0
  have C := Aside0.mk hC
  have OPn := Aside0.mk (Kd.R_below OP.out hB)
  clear OP
  have OP := OPn
  clear OPn
  have Rmxn := Aside0.mk (Kd.R_below Rmx.out hB)
  clear Rmx
  have Rmx := Rmxn
  clear Rmxn
  have Rox := Aside0.mk hRox
  simp only [Exit.then]
  refine hKK _ _ ?_
  clear hKK hC hB hRox
  subst hF
  simp only [puts, List.foldl, Act.put, List.setIfInBounds_toArray, List.set_cons_zero, List.set_cons_succ]
  clear hmk RM hw4
  have MO : Aside0 (Mo w W6 B2 d2 ops Amx cmx mx Aox cox ox) := ⟨⟨OP.out, Rmx.out, Rox.out⟩⟩
  clear OP Rmx Rox
  obtain ⟨x2⟩ : Aside0 _ := ⟨boxm2 C.out.box⟩
  obtain ⟨x1⟩ : Aside0 _ := ⟨boxm1 C.out.box⟩
  have hlo : ops.length ≤ ox.length := by rw [HXox.out]; simp
  have hco : ox.length ≤ cox := (Kd.R_reads' MO.out.ox).2.1
  have hlp := HLEN.out.2.2
  go_wp2_with (first
    | (go_at_call 10; (with_reducible refine (larchlaw06_copied.calls A1 c1 nn nn _ (Kd.C_below HRN.out C.out.bel) HNC.out (copied_f nn HF.out.smalln)).mono ?_); rintro e_ w8 ⟨v, rfl, ho, hb⟩; obtain ⟨An, cn, rfl⟩ := Kd.R_slice ho; have C8 := Aside0.mk ((C.out.below hb).row (Kd.R_mono (Kd.R_lower ho C.out.bel.size) (fun _ _ => trivial))); have MOn := Aside0.mk (MO.out.below hb); clear MO; have MO := MOn; clear MOn; obtain ⟨z0, z2⟩ := box2 C8.out.box; clear ho hb x1 x2)
    | (go_at_call 16; (with_reducible refine (larchref06_Run.calls k A0 c0 m B2 d2 ops ru rs re w8 (Kd.C_below HRM.out C8.out.bel) HMC.out (Kd.R_reads' MO.out.op).2.2 (Kd.R_reads' MO.out.op).2.1 HF.out.rrun).mono ?_); rintro e_ w9 ⟨v, u, rfl, hR, hS, hb⟩; obtain ⟨Awm, cwm, rfl⟩ := Kd.R_slice hR; obtain ⟨Awr, cwr, rfl⟩ := Kd.S_slice hS; have C9 := Aside0.mk ((C8.out.below hb).row (Kd.R_mono (Kd.R_lower hR C8.out.bel.size) (fun _ _ => trivial))); have MOn := Aside0.mk (MO.out.below hb); clear MO; have MO := MOn; clear MOn; have WR9 := Aside0.mk (Kd.S_reads' hS); have WL := Aside0.mk (Kd.S_reads' hS).2.1; clear hR hS hb z0 z2; obtain ⟨z0, z4, z5, z6, z7⟩ := box4 C9.out.box)
    | (go_at_call 11; (with_reducible refine (larchref06_Do.calls k A0 c0 m o0 o1 o2 o3 dl g0 g1 g2 gp de w9 (Kd.C_below HRM.out C9.out.bel) HMC.out HF.out.rdo).mono ?_); rintro e_ w10 ⟨v, u, rfl, ho, hp, hb⟩; obtain ⟨Adm, cdm, rfl⟩ := Kd.R_slice ho; obtain ⟨Adp, cdp, rfl⟩ := Kd.R_slice hp; have CX := Aside0.mk ((C9.out.below hb).row (Kd.R_mono (Kd.R_lower ho C9.out.bel.size) (fun _ _ => trivial))); have C10 := Aside0.mk (CX.out.fresh (q0 := g0) (q1 := g1) (q2 := g2) (Kd.R_mono (Kd.R_lower hp C9.out.bel.size) (fun _ _ => trivial))); have MOn := Aside0.mk ((MO.out.below hb).below (below_alloc (Below.refl _ _) (.cells (rC g0 g1 g2 (.slice Adp gp.length cdp)) 27))); clear MO; have MO := MOn; clear MOn; have WR10 := Aside0.mk (Kd.C_below (Kd.C_below WR9.out.2.2 hb) (below_alloc (Below.refl _ _) (.cells (rC g0 g1 g2 (.slice Adp gp.length cdp)) 27))); clear ho hp hb z0 z4 z5 z6 z7; obtain ⟨z0⟩ : Aside0 ((w10.alloc (.cells #[.bool g0, .int .i64 g1, .int .i64 g2, .slice Adp gp.length cdp] 27)).cell? ⟨w.heap.size, 0, none⟩ = some (.slice A0 m.length c0)) := ⟨boxm0 C10.out.box⟩; obtain ⟨z12, z13⟩ : (w10.alloc (.cells #[.bool g0, .int .i64 g1, .int .i64 g2, .slice Adp gp.length cdp] 27)).cell? ⟨w.heap.size, 12, none⟩ = some (.int .i64 kk) ∧ (w10.alloc (.cells #[.bool g0, .int .i64 g1, .int .i64 g2, .slice Adp gp.length cdp] 27)).cell? ⟨w.heap.size, 13, none⟩ = some (.int .i64 hh) := boxm12 C10.out.box)
    | (go_at_call 25; obtain ⟨W10, hW10⟩ : ∃ W10, W10 = (w10.alloc (.cells #[.bool g0, .int .i64 g1, .int .i64 g2, .slice Adp gp.length cdp] 27)) := ⟨_, rfl⟩; have CN : Aside0 (Cy w W10 (boxL A0 A1 B2 B3 A4 m.length nn.length ops.length more.length ps.length c0 c1 d2 d3 c4 o0 o1 o2 o3 b q1 q2 kk hh) [⟨Adm, cdm, dl⟩, ⟨Awm, cwm, ru⟩, ⟨An, cn, nn⟩] [⟨w10.heap.size, g0, g1, g2, Adp, cdp, gp⟩]) := ⟨by rw [hW10]; exact C10.out⟩; have MN : Aside0 (Mo w W10 B2 d2 ops Amx cmx mx Aox cox ox) := ⟨by rw [hW10]; exact MO.out⟩; have WN : Aside0 (Kd.C k27 W10 Awr rs.length rs) := ⟨by rw [hW10]; exact WR10.out⟩; rw [← hW10]; clear hW10 MO z0 z12 z13; (with_reducible refine (larchref06_Part.calls k A0 c0 m kk hh pl pe W10 (Kd.C_below HRM.out CN.out.bel) HMC.out HF.out.rpart).mono ?_); rintro e_ w11 ⟨v, rfl, ho, hb⟩; obtain ⟨Apm, cpm, rfl⟩ := Kd.R_slice ho; have C11 := Aside0.mk ((CN.out.below hb).row (Kd.R_mono (Kd.R_lower ho CN.out.bel.size) (fun _ _ => trivial))); have MO := Aside0.mk (MN.out.below hb); have WR11 := Aside0.mk (Kd.C_below WN.out hb); clear ho hb; obtain ⟨z0⟩ : Aside0 _ := ⟨boxm0 C11.out.box⟩)
    | (go_at_call 26; (with_reducible refine (larchref06_Of.calls k A0 c0 m fl w11 (Kd.C_below HRM.out C11.out.bel) HMC.out HF.out.rof).mono ?_); rintro e_ w12 ⟨v, rfl, ho, hb⟩; obtain ⟨Aof, cof, rfl⟩ := Kd.R_slice ho; have C12 := Aside0.mk ((C11.out.below hb).row (Kd.R_mono (Kd.R_lower ho C11.out.bel.size) (fun _ _ => trivial))); have MOn := Aside0.mk (MO.out.below hb); clear MO; have MO := MOn; clear MOn; have WR12 := Aside0.mk (Kd.C_below WR11.out hb); clear ho hb z0))
  have M12 := MO
  clear MO
  go_loopw [17, 19] (fun v17 v19 W => ∃ (j : Nat) (ls : List (Sl × List S51)), v19 = .int .i64 (j : Int) ∧ j ≤ 2 ∧ (j * 5 ≤ ls.length ∧ ls.length ≤ j * 305) ∧ Aside0 (Lp w12 W W.heap.size ls v17)) (fun v17 v19 _ => 2 - (intOf v19).toNat)
  case atStart => exact ⟨0, [], rfl, by decide, by simp, ⟨⟨Below.refl _ _, Fam.nil _ _ _, Kd.R_nil _ _ _ _ _, by simp, by simp⟩⟩⟩
  case round =>
    obtain ⟨j, ls, rfl, hj, hls, L⟩ := hrel
    by_cases hlt : j < 2
    · have HW := Aside0.mk L.out.bel.size
      have C := Aside0.mk (C12.out.below L.out.bel)
      have M := Aside0.mk (M12.out.below L.out.bel)
      have WR := Aside0.mk (Kd.C_below WR12.out L.out.bel)
      obtain ⟨y4, y5, y6, y7⟩ := boxm4 C.out.box
      go_wp2_with (first
        | (go_at_call 14; (with_reducible refine (model_Run.calls Amx cmx m Aox cox ops ru rs re wr (M.out.mC HXmx.out).1 (M.out.mC HXmx.out).2 (M.out.oC HXox.out).1 (M.out.oC HXox.out).2 HF.out.run).mono ?_); rintro e_ a2 ⟨v, u, rfl, hR, hS, hb⟩; obtain ⟨Aa, ca, rfl⟩ := Kd.R_slice hR; obtain ⟨Ar, cr, rfl⟩ := Kd.S_slice hS; obtain ⟨us, hrr, huf, hun⟩ := S_fam hS; have U := Aside0.mk (Fam.cons huf (v := ⟨Aa, ru.length, ca⟩) hR (Nat.le_refl _) (fun p hp k hk => hun p hp k hk)); have RR := Aside0.mk hrr; have SZ := Aside0.mk hb.size; have Cn := Aside0.mk (C.out.below hb); clear C; have C := Cn; clear Cn; have Mn := Aside0.mk (M.out.below hb); clear M; have M := Mn; clear Mn; have Ln := Aside0.mk (L.out.below hb); clear L; have L := Ln; clear Ln; have WRn := Aside0.mk (Kd.C_below WR.out hb); clear WR; have WR := WRn; clear WRn; clear hR hS hrr huf hun hb y4 y5 y6 y7; obtain ⟨y4, y5, y6, y7⟩ := boxm4 C.out.box)
        | (go_at_call 9; (with_reducible refine (model_Do.calls Amx cmx m o0 o1 o2 o3 dl g0 g1 g2 gp de a2 (M.out.mC HXmx.out).1 (M.out.mC HXmx.out).2 HF.out.do_).mono ?_); rintro e_ a3 ⟨v, u, rfl, ho, hp, hb⟩; obtain ⟨Ab, cb, rfl⟩ := Kd.R_slice ho; obtain ⟨Aq, cq, rfl⟩ := Kd.R_slice hp; have QR := Aside0.mk (Kd.R_below (Kd.R_mono (Kd.R_lower hp C.out.bel.size) (fun _ _ => trivial) (ok' := fun _ => True)) (Below.refl _ _)); have U2 := Aside0.mk (Fam.cons (Fam.one (v := ⟨Aq, gp.length, cq⟩) hp) (v := ⟨Ab, dl.length, cb⟩) ho (Nat.le_refl _) (fun p hm k hk => by rw [List.mem_singleton] at hm; subst hm; exact hp.1 k hk)); have Un := Aside0.mk ((U.out.below hb).app U2.out SZ.out hb.size); clear U; have U := Un; clear Un; have SZn := Aside0.mk (Nat.le_trans SZ.out hb.size); clear SZ; have SZ := SZn; clear SZn; have Cn := Aside0.mk (C.out.below hb); clear C; have C := Cn; clear Cn; have Mn := Aside0.mk (M.out.below hb); clear M; have M := Mn; clear Mn; have Ln := Aside0.mk (L.out.below hb); clear L; have L := Ln; clear Ln; have RRn := Aside0.mk (RR.out.below hb); clear RR; have RR := RRn; clear RRn; have WRn := Aside0.mk (Kd.C_below WR.out hb); clear WR; have WR := WRn; clear WRn; clear ho hp hb U2 y4 y5 y6 y7; obtain ⟨z12, z13⟩ : (a3.alloc (.cells #[.bool g0, .int .i64 g1, .int .i64 g2, .slice Aq gp.length cq] 27)).cell? ⟨w.heap.size, 12, none⟩ = some (.int .i64 kk) ∧ (a3.alloc (.cells #[.bool g0, .int .i64 g1, .int .i64 g2, .slice Aq gp.length cq] 27)).cell? ⟨w.heap.size, 13, none⟩ = some (.int .i64 hh) := boxm12 (C.out.alloc _).box)
        | (go_at_call 27; obtain ⟨b3, hb3⟩ : ∃ b3, b3 = (a3.alloc (.cells #[.bool g0, .int .i64 g1, .int .i64 g2, .slice Aq gp.length cq] 27)) := ⟨_, rfl⟩; have hb : Below a3.heap.size a3 b3 := (by rw [hb3]; exact below_alloc (Below.refl _ _) _); have CN : Aside0 (Cy w b3 (boxL A0 A1 B2 B3 A4 m.length nn.length ops.length more.length ps.length c0 c1 d2 d3 c4 o0 o1 o2 o3 b q1 q2 kk hh) [⟨Aof, cof, fl⟩, ⟨Apm, cpm, pl⟩, ⟨Adm, cdm, dl⟩, ⟨Awm, cwm, ru⟩, ⟨An, cn, nn⟩] [⟨a3.heap.size, g0, g1, g2, Aq, cq, gp⟩, ⟨w10.heap.size, g0, g1, g2, Adp, cdp, gp⟩]) := ⟨by rw [hb3]; exact C.out.fresh QR.out⟩; have Un := Aside0.mk ((U.out.below hb).raise hb.size); clear U; have U := Un; clear Un; have SZn := Aside0.mk (Nat.le_trans SZ.out hb.size); clear SZ; have SZ := SZn; clear SZn; have Mn := Aside0.mk (M.out.below hb); clear M; have M := Mn; clear Mn; have Ln := Aside0.mk (L.out.below hb); clear L; have L := Ln; clear Ln; have RRn := Aside0.mk (RR.out.below hb); clear RR; have RR := RRn; clear RRn; have WRn := Aside0.mk (Kd.C_below WR.out hb); clear WR; have WR := WRn; clear WRn; have CI := Aside0.mk (Nat.le_refl a3.heap.size); rw [← hb3]; clear hb hb3 C QR z12 z13; (with_reducible refine (model_Part.calls k Amx cmx m kk hh pl pe b3 (M.out.mC HXmx.out).1 (M.out.mC HXmx.out).2 HF.out.part).mono ?_); rintro e_ a4 ⟨v, rfl, ho, hb⟩; obtain ⟨Ac, cc, rfl⟩ := Kd.R_slice ho; have C := Aside0.mk (CN.out.below hb); have Un := Aside0.mk ((U.out.below hb).app (Fam.one (v := ⟨Ac, pl.length, cc⟩) ho) SZ.out hb.size); clear U; have U := Un; clear Un; have SZn := Aside0.mk (Nat.le_trans SZ.out hb.size); clear SZ; have SZ := SZn; clear SZn; have Mn := Aside0.mk (M.out.below hb); clear M; have M := Mn; clear Mn; have Ln := Aside0.mk (L.out.below hb); clear L; have L := Ln; clear Ln; have RRn := Aside0.mk (RR.out.below hb); clear RR; have RR := RRn; clear RRn; have WRn := Aside0.mk (Kd.C_below WR.out hb); clear WR; have WR := WRn; clear WRn; clear ho hb CN)
        | (go_at_call 20; (with_reducible refine (model_Of.calls Amx cmx m fl a4 (M.out.mC HXmx.out).1 (M.out.mC HXmx.out).2 HF.out.of_).mono ?_); rintro e_ a5 ⟨v, rfl, ho, hb⟩; obtain ⟨Ad, cd, rfl⟩ := Kd.R_slice ho; have Un := Aside0.mk ((U.out.below hb).app (Fam.one (v := ⟨Ad, fl.length, cd⟩) ho) SZ.out hb.size); clear U; have U := Un; clear Un; have SZn := Aside0.mk (Nat.le_trans SZ.out hb.size); clear SZ; have SZ := SZn; clear SZn; have Cn := Aside0.mk (C.out.below hb); clear C; have C := Cn; clear Cn; have Mn := Aside0.mk (M.out.below hb); clear M; have M := Mn; clear Mn; have Ln := Aside0.mk (L.out.below hb); clear L; have L := Ln; clear Ln; have RRn := Aside0.mk (RR.out.below hb); clear RR; have RR := RRn; clear RRn; have WRn := Aside0.mk (Kd.C_below WR.out hb); clear WR; have WR := WRn; clear WRn; clear ho hb)
        | (go_at_call 28; (with_reducible refine (model_Differ.calls (P0_ := fun k_ => k_ < a5.heap.size) (P1_ := fun k_ => k_ < a5.heap.size) (k := k) (A0 := Amx) (c0 := cmx) (l0 := m) (A1 := An) (c1 := cn) (l1 := nn) (r1 := df) (r2 := dfe) (hs0 := Kd.V_mk (M.out.mC HXmx.out).2 (Kd.C_F heap51m (M.out.mC HXmx.out).1)) (hs1 := Kd.V_mk (C.out.rowC (A := An) (c := cn) (l := nn) (by simp)).2 (Kd.C_F heap51m (C.out.rowC (A := An) (c := cn) (l := nn) (by simp)).1)) (h := HF.out.diff)).mono ?_); rintro e_ a6 ⟨v, rfl, ho, hb⟩; have Un := Aside0.mk ((U.out.below hb).raise hb.size); clear U; have U := Un; clear Un; have SZn := Aside0.mk (Nat.le_trans SZ.out hb.size); clear SZ; have SZ := SZn; clear SZn; have Cn := Aside0.mk (C.out.below hb); clear C; have C := Cn; clear Cn; have Mn := Aside0.mk (M.out.below hb); clear M; have M := Mn; clear Mn; have Ln := Aside0.mk (L.out.below hb); clear L; have L := Ln; clear Ln; have RRn := Aside0.mk (RR.out.below hb); clear RR; have RR := RRn; clear RRn; have WRn := Aside0.mk (Kd.C_below WR.out hb); clear WR; have WR := WRn; clear WRn; clear ho hb; obtain ⟨y12, y13⟩ := boxm12 C.out.box)
        | (go_at_call 29; (with_reducible refine (model_Find.calls k Amx cmx m kk fi fb fe a6 (M.out.mC HXmx.out).1 (M.out.mC HXmx.out).2 HF.out.find).mono ?_); rintro e_ a7 ⟨rfl, hb⟩; have Un := Aside0.mk ((U.out.below hb).raise hb.size); clear U; have U := Un; clear Un; have SZn := Aside0.mk (Nat.le_trans SZ.out hb.size); clear SZ; have SZ := SZn; clear SZn; have Cn := Aside0.mk (C.out.below hb); clear C; have C := Cn; clear Cn; have Mn := Aside0.mk (M.out.below hb); clear M; have M := Mn; clear Mn; have Ln := Aside0.mk (L.out.below hb); clear L; have L := Ln; clear Ln; have RRn := Aside0.mk (RR.out.below hb); clear RR; have RR := RRn; clear RRn; have WRn := Aside0.mk (Kd.C_below WR.out hb); clear WR; have WR := WRn; clear WRn; clear hb y12 y13)
        | (go_at_call 12; (with_reducible refine (larchref06_Same.calls k Aa ca ru Awm cwm ru true a7 (Kd.R_reads' (U.out.row (⟨Aa, ru.length, ca⟩, ru) (by simp))).2.2 (Kd.R_reads' (U.out.row (⟨Aa, ru.length, ca⟩, ru) (by simp))).2.1 (C.out.rowC (A := Awm) (c := cwm) (l := ru) (by simp)).1 (C.out.rowC (A := Awm) (c := cwm) (l := ru) (by simp)).2 (HF.out.same ru HF.out.lens.1)).mono ?_); rintro e_ a8 ⟨rfl, hd⟩; have hb := hd.below; have Un := Aside0.mk ((U.out.below hb).raise hb.size); clear U; have U := Un; clear Un; have SZn := Aside0.mk (Nat.le_trans SZ.out hb.size); clear SZ; have SZ := SZn; clear SZn; have Cn := Aside0.mk (C.out.below hb); clear C; have C := Cn; clear Cn; have Mn := Aside0.mk (M.out.below hb); clear M; have M := Mn; clear Mn; have Ln := Aside0.mk (L.out.below hb); clear L; have L := Ln; clear Ln; have RRn := Aside0.mk (RR.out.below hb); clear RR; have RR := RRn; clear RRn; have WRn := Aside0.mk (Kd.C_below WR.out hb); clear WR; have WR := WRn; clear WRn; clear hd hb)
        | (go_at_call 17; (with_reducible refine (larchref06_SameRets.calls k Ar cr rs Awr cwr rs true a8 (Kd.S_reads' RR.out.s).2.2 (Kd.S_reads' RR.out.s).2.1 WR.out WL.out HF.out.srets).mono ?_); rintro e_ a9 ⟨rfl, hb⟩; have Un := Aside0.mk ((U.out.below hb).raise hb.size); clear U; have U := Un; clear Un; have SZn := Aside0.mk (Nat.le_trans SZ.out hb.size); clear SZ; have SZ := SZn; clear SZn; have Cn := Aside0.mk (C.out.below hb); clear C; have C := Cn; clear Cn; have Mn := Aside0.mk (M.out.below hb); clear M; have M := Mn; clear Mn; have Ln := Aside0.mk (L.out.below hb); clear L; have L := Ln; clear Ln; have RRn := Aside0.mk (RR.out.below hb); clear RR; have RR := RRn; clear RRn; have WRn := Aside0.mk (Kd.C_below WR.out hb); clear WR; have WR := WRn; clear WRn; clear hb)
        | (go_at_call 12; (with_reducible refine (larchref06_Same.calls k Ab cb dl Adm cdm dl true a9 (Kd.R_reads' (U.out.row (⟨Ab, dl.length, cb⟩, dl) (by simp))).2.2 (Kd.R_reads' (U.out.row (⟨Ab, dl.length, cb⟩, dl) (by simp))).2.1 (C.out.rowC (A := Adm) (c := cdm) (l := dl) (by simp)).1 (C.out.rowC (A := Adm) (c := cdm) (l := dl) (by simp)).2 (HF.out.same dl HF.out.lens.2.1)).mono ?_); rintro e_ a10 ⟨rfl, hd⟩; have hb := hd.below; have Un := Aside0.mk ((U.out.below hb).raise hb.size); clear U; have U := Un; clear Un; have SZn := Aside0.mk (Nat.le_trans SZ.out hb.size); clear SZ; have SZ := SZn; clear SZn; have Cn := Aside0.mk (C.out.below hb); clear C; have C := Cn; clear Cn; have Mn := Aside0.mk (M.out.below hb); clear M; have M := Mn; clear Mn; have Ln := Aside0.mk (L.out.below hb); clear L; have L := Ln; clear Ln; have RRn := Aside0.mk (RR.out.below hb); clear RR; have RR := RRn; clear RRn; have WRn := Aside0.mk (Kd.C_below WR.out hb); clear WR; have WR := WRn; clear WRn; clear hd hb; obtain ⟨t0, t1, t2, t3⟩ := C.out.ans (g := a3.heap.size) (q0 := g0) (q1 := g1) (q2 := g2) (A := Aq) (c := cq) (ps := gp) (by simp); obtain ⟨r0, r1, r2, r3⟩ := C.out.ans (g := w10.heap.size) (q0 := g0) (q1 := g1) (q2 := g2) (A := Adp) (c := cdp) (ps := gp) (by simp))
        | (go_at_call 13; (with_reducible refine (larchref06_SameRet.calls k g0 g1 g2 Aq cq gp g0 g1 g2 Adp cdp gp true a10 (C.out.ansC (g := a3.heap.size) (q0 := g0) (q1 := g1) (q2 := g2) (A := Aq) (c := cq) (ps := gp) (by simp)).1 (C.out.ansC (g := a3.heap.size) (q0 := g0) (q1 := g1) (q2 := g2) (A := Aq) (c := cq) (ps := gp) (by simp)).2 (C.out.ansC (g := w10.heap.size) (q0 := g0) (q1 := g1) (q2 := g2) (A := Adp) (c := cdp) (ps := gp) (by simp)).1 (C.out.ansC (g := w10.heap.size) (q0 := g0) (q1 := g1) (q2 := g2) (A := Adp) (c := cdp) (ps := gp) (by simp)).2 HF.out.sret).mono ?_); rintro e_ a11 ⟨rfl, hb⟩; have Un := Aside0.mk ((U.out.below hb).raise hb.size); clear U; have U := Un; clear Un; have SZn := Aside0.mk (Nat.le_trans SZ.out hb.size); clear SZ; have SZ := SZn; clear SZn; have Cn := Aside0.mk (C.out.below hb); clear C; have C := Cn; clear Cn; have Mn := Aside0.mk (M.out.below hb); clear M; have M := Mn; clear Mn; have Ln := Aside0.mk (L.out.below hb); clear L; have L := Ln; clear Ln; have RRn := Aside0.mk (RR.out.below hb); clear RR; have RR := RRn; clear RRn; have WRn := Aside0.mk (Kd.C_below WR.out hb); clear WR; have WR := WRn; clear WRn; clear hb t0 t1 t2 t3 r0 r1 r2 r3)
        | (go_at_call 12; (with_reducible refine (larchref06_Same.calls k Ac cc pl Apm cpm pl true a11 (Kd.R_reads' (U.out.row (⟨Ac, pl.length, cc⟩, pl) (by simp))).2.2 (Kd.R_reads' (U.out.row (⟨Ac, pl.length, cc⟩, pl) (by simp))).2.1 (C.out.rowC (A := Apm) (c := cpm) (l := pl) (by simp)).1 (C.out.rowC (A := Apm) (c := cpm) (l := pl) (by simp)).2 (HF.out.same pl HF.out.lens.2.2.1)).mono ?_); rintro e_ a12 ⟨rfl, hd⟩; have hb := hd.below; have Un := Aside0.mk ((U.out.below hb).raise hb.size); clear U; have U := Un; clear Un; have SZn := Aside0.mk (Nat.le_trans SZ.out hb.size); clear SZ; have SZ := SZn; clear SZn; have Cn := Aside0.mk (C.out.below hb); clear C; have C := Cn; clear Cn; have Mn := Aside0.mk (M.out.below hb); clear M; have M := Mn; clear Mn; have Ln := Aside0.mk (L.out.below hb); clear L; have L := Ln; clear Ln; have RRn := Aside0.mk (RR.out.below hb); clear RR; have RR := RRn; clear RRn; have WRn := Aside0.mk (Kd.C_below WR.out hb); clear WR; have WR := WRn; clear WRn; clear hd hb)
        | (go_at_call 12; (with_reducible refine (larchref06_Same.calls k Ad cd fl Aof cof fl true a12 (Kd.R_reads' (U.out.row (⟨Ad, fl.length, cd⟩, fl) (by simp))).2.2 (Kd.R_reads' (U.out.row (⟨Ad, fl.length, cd⟩, fl) (by simp))).2.1 (C.out.rowC (A := Aof) (c := cof) (l := fl) (by simp)).1 (C.out.rowC (A := Aof) (c := cof) (l := fl) (by simp)).2 (HF.out.same fl HF.out.lens.2.2.2.1)).mono ?_); rintro e_ a13 ⟨rfl, hd⟩; have hb := hd.below; have Un := Aside0.mk ((U.out.below hb).raise hb.size); clear U; have U := Un; clear Un; have SZn := Aside0.mk (Nat.le_trans SZ.out hb.size); clear SZ; have SZ := SZn; clear SZn; have Cn := Aside0.mk (C.out.below hb); clear C; have C := Cn; clear Cn; have Mn := Aside0.mk (M.out.below hb); clear M; have M := Mn; clear Mn; have Ln := Aside0.mk (L.out.below hb); clear L; have L := Ln; clear Ln; have RRn := Aside0.mk (RR.out.below hb); clear RR; have RR := RRn; clear RRn; have WRn := Aside0.mk (Kd.C_below WR.out hb); clear WR; have WR := WRn; clear WRn; clear hd hb; obtain ⟨t0, t1, t2, t3⟩ := C.out.ans (g := a3.heap.size) (q0 := g0) (q1 := g1) (q2 := g2) (A := Aq) (c := cq) (ps := gp) (by simp))
        | ((with_reducible refine gate_dst (N := 207) rfl ?_); refine Kd.event_run (v := .slice (some ⟨a13.heap.size, 0, none⟩) 5 5) (w1 := a13.alloc (.cells #[.slice Aa ru.length ca, .slice Ab dl.length cb, .slice Ac pl.length cc, .slice Ad fl.length cd, .slice Aq gp.length cq] 22)) rfl ?hr ?_; (case hr => first | (go_simp; done) | (go_simp; rfl)))
        | ((with_reducible refine gate_builtin (b := .append) (xs := #[.tmp 200, .tmp 207]) rfl ?_); refine Kd.R_append_rows kSl (w0 := w12) w12.heap.size rfl (.tmp 200) (.tmp 207) 54 22 (.slice none 0 0) 24 rfl under54 info22 rfl (by decide) (by omega) _ (ls.map Prod.fst) [⟨Aa, ru.length, ca⟩, ⟨Ab, dl.length, cb⟩, ⟨Ac, pl.length, cc⟩, ⟨Ad, fl.length, cd⟩, ⟨Aq, gp.length, cq⟩] _ _ _ (fun _ => True) (fun _ => False) rfl rfl ?aO (Rr := fun x cs => kSl.K w x cs) ?aR (fun _ _ h => h) (fun _ h => h.elim) (fun _ _ => trivial) ?aB ?aS ?aL ?_; (case aO => exact Kd.R_alloc L.out.arr _); (case aR => exact lit_sls [⟨Aa, ru.length, ca⟩, ⟨Ab, dl.length, cb⟩, ⟨Ac, pl.length, cc⟩, ⟨Ad, fl.length, cd⟩, ⟨Aq, gp.length, cq⟩] (by simp) (blk_new a13 _)); (case aB => exact below_alloc L.out.bel _); (case aS => exact (below_alloc L.out.bel _).size); (case aL => have := L.out.cnt; simp; omega); intro v1 a14 ho hb hg hat; have AR := Aside0.mk ho; have B14 := Aside0.mk hb; have RN := Aside0.mk (Rn.grown (Rn.alloc (Rn.mk L.out.fam U.out RR.out) _) (Kd.R_alloc L.out.arr _) hg); have LC := Aside0.mk (And.intro L.out.len (And.intro L.out.bel.size (Nat.le_trans (Nat.le_of_lt (Nat.lt_succ_self _)) (Nat.le_trans (Nat.le_of_eq (size_ad a13 _).symm) hg.size)))); clear ho hb hg hat t0 t1 t2 t3 L U RR C M WR)
        )
      obtain ⟨s1, hs1⟩ : ∃ s1, s1 = wr.heap.size := ⟨_, rfl⟩
      rw [← hs1] at RN SZ HW
      obtain ⟨t1, ht1⟩ : ∃ t1, t1 = a13.heap.size := ⟨_, rfl⟩
      rw [← ht1] at RN SZ LC
      have HS := Aside0.mk (show w12.heap.size ≤ s1 ∧ s1 ≤ t1 by have h1 := HW.out; have h2 := SZ.out; omega)
      clear hs1 ht1 SZ HW
      have hrm : rs.length ≤ 300 := HF.out.lens.2.2.2.2.2.1
      go_loopw [17, 29] (fun v17 v29 W => ∃ (i : Nat), v29 = .int .i64 (i : Int) ∧ i ≤ rs.length ∧ t1 ≤ W.heap.size ∧ Aside0 (Below w12.heap.size w12 W) ∧ Aside0 (Rn w12 W s1 s1 t1 ls (((((⟨Aa, ru.length, ca⟩, ru) :: us) ++ [(⟨Ab, dl.length, cb⟩, dl), (⟨Aq, gp.length, cq⟩, gp)]) ++ [(⟨Ac, pl.length, cc⟩, pl)]) ++ [(⟨Ad, fl.length, cd⟩, fl)]) Ar cr rs us) ∧ Aside0 (Kd.R kSl 22 W w12.heap.size (fun _ => True) v17 (ls.map Prod.fst ++ [⟨Aa, ru.length, ca⟩, ⟨Ab, dl.length, cb⟩, ⟨Ac, pl.length, cc⟩, ⟨Ad, fl.length, cd⟩, ⟨Aq, gp.length, cq⟩] ++ (us.take i).map Prod.fst))) (fun v17 v29 _ => rs.length - (intOf v29).toNat)
      case atStart => exact ⟨0, rfl, Nat.zero_le _, LC.out.2.2, B14, RN, ⟨by simpa using AR.out⟩⟩
      case round =>
        clear B14 RN AR
        obtain ⟨i, rfl, hi, ht, BW, RN, AR⟩ := hrel
        have hul := RN.out.rr.len
        by_cases hli : i < rs.length
        · obtain ⟨ad, e, x3⟩ := RN.out.rr.cell i (by omega)
          subst e
          obtain ⟨g, e⟩ := Kd.R_head (Kd.S_R RN.out.rr.s)
          subst e
          obtain ⟨⟨Av, nv, cv⟩, hsi⟩ : ∃ s, s = (us[i]'(by omega)).1 := ⟨_, rfl⟩
          rw [← hsi, add_plain] at x3
          have x4 : wr.cell? ⟨g, i * 4 + 3, none⟩ = some (.slice Av nv cv) := x3
          have HSI := Aside0.mk hsi
          clear x3 hsi
          have b1 : (0 : Int) ≤ (i : Int) := by omega
          have b2 : (i : Int) < (rs.length : Int) := by omega
          go_wp2_with (first
            | ((with_reducible refine gate_dst (N := 221) rfl ?_); refine Kd.event_run (v := .slice (some ⟨wr.heap.size, 0, none⟩) 1 1) (w1 := wr.alloc (.cells #[.slice Av nv cv] 22)) rfl ?hr ?_; (case hr => first | (go_simp; done) | (go_simp; rfl)))
            | ((with_reducible refine gate_builtin (b := .append) (xs := #[.tmp 215, .tmp 221]) rfl ?_); refine Kd.R_append_rows kSl (w0 := w12) w12.heap.size rfl (.tmp 215) (.tmp 221) 54 22 (.slice none 0 0) 24 rfl under54 info22 rfl (by decide) (by omega) _ (ls.map Prod.fst ++ [⟨Aa, ru.length, ca⟩, ⟨Ab, dl.length, cb⟩, ⟨Ac, pl.length, cc⟩, ⟨Ad, fl.length, cd⟩, ⟨Aq, gp.length, cq⟩] ++ (us.take i).map Prod.fst) [⟨Av, nv, cv⟩] _ _ _ (fun _ => True) (fun _ => False) rfl rfl ?aO (Rr := fun x cs => kSl.K w x cs) ?aR (fun _ _ h => h) (fun _ h => h.elim) (fun _ _ => trivial) ?aB ?aS ?aL ?_; (case aO => exact Kd.R_alloc AR.out _); (case aR => exact lit_sls [⟨Av, nv, cv⟩] (by simp) (blk_new _ _)); (case aB => exact below_alloc BW.out _); (case aS => exact (below_alloc BW.out _).size); (case aL => simp; omega); intro v1 a15 ho hb hg hat; have AR2 := Aside0.mk ho; have BW2 := Aside0.mk hb; have RN2 := Aside0.mk (Rn.grown (Rn.alloc RN.out _) (Kd.R_alloc AR.out _) hg); have HT2 := Aside0.mk (Nat.le_trans ht (Nat.le_trans (Nat.le_of_lt (Nat.lt_succ_self _)) (Nat.le_trans (Nat.le_of_eq (size_ad wr _).symm) hg.size))); clear ho hb hg hat))
          go_roundw
          case rel =>
            refine ⟨i + 1, by go_num, by omega, HT2.out, BW2, RN2, ⟨?_⟩⟩
            have := AR2.out
            rw [HSI.out] at this
            have e : (us.take (i + 1)).map Prod.fst = (us.take i).map Prod.fst ++ [(us[i]'(by omega)).1] := by rw [List.take_add_one, List.getElem?_eq_getElem (by omega), Option.toList_some, List.map_append]; rfl
            rw [e, ← List.append_assoc]
            exact this
          case measure => simp [intOf]; omega
        · obtain rfl : i = rs.length := by omega
          have SND := Aside0.mk RN.out.rr.snd
          have HUL := Aside0.mk hul
          clear hli hul
          go_wp2_with (first
            | ((with_reducible refine gate_dst (N := 226) rfl ?_); refine Kd.event_run (v := .slice (some ⟨wr.heap.size, 0, none⟩) 2 2) (w1 := wr.alloc (.cells #[.bool false, .int .i64 (-3), .int .i64 0, .slice none 0 0, .bool false, .int .i64 (-4), .int .i64 0, .slice none 0 0] 27)) rfl ?hr ?_; (case hr => first | (go_simp; done) | (go_simp; rfl)))
            | ((with_reducible refine gate_builtin (b := .append) (xs := #[.tmp 223, .tmp 226]) rfl ?_); refine append_spill k27 _ rfl (.tmp 223) (.tmp 226) 38 rfl 27 (.agg #[(.bool false), (.int .i64 0), (.int .i64 0), (.slice none 0 0)]) 48 Try.underlying38 info27 rfl (by decide) (base := w12.heap.size) (ok := fun _ => True) (xs := rs) rfl ?aR ⟨wr.heap.size, 0, none⟩ 2 2 [.bool false, .int .i64 (-3), .int .i64 0, .slice none 0 0, .bool false, .int .i64 (-4), .int .i64 0, .slice none 0 0] rfl (by rfl) ?aC ?a1 (by decide) ?ab1 ?ab2 ?aS ?_; (case aR => exact Kd.R_alloc (Kd.R_lower (Kd.S_R RN.out.rr.s) HS.out.1) _); (case aC => intro j u hj; rw [add_plain, blk_cell (blk_new _ _)]; simpa using hj); (case a1 => first | (simp [Value.oneCell']; done) | decide); (case ab1 => unfold maxLen; omega); (case ab2 => omega); (case aS => exact (below_alloc BW.out _).size); intro v' a16 hR hc; have RX := Aside0.mk (Kd.R_alloc (Kd.R_lower (Kd.S_R RN.out.rr.s) HS.out.1) (.cells [.bool false, .int .i64 (-3), .int .i64 0, .slice none 0 0, .bool false, .int .i64 (-4), .int .i64 0, .slice none 0 0].toArray 27)); have FA3 := Aside0.mk ((RN.out.alloc _).fam.chgT (Kd.R_typed RX.out) (by decide) hc); have FN3 := Aside0.mk ((RN.out.alloc _).new.chgT (Kd.R_typed RX.out) (by decide) hc); have AR3 := Aside0.mk (sl_chgT (Kd.R_alloc AR.out _) (Kd.R_typed RX.out) (by decide) hc); have BW3 := Aside0.mk (hc.to_below (below_alloc BW.out _) (below_alloc BW.out _).size (fun k hk => Kd.R_base RX.out k hk.symm)); have HT3 := Aside0.mk (Nat.le_trans ht (Nat.le_trans (Nat.le_of_lt (Nat.lt_succ_self _)) (Nat.le_trans (Nat.le_of_eq (size_ad wr _).symm) hc.size))); clear hR hc RX RN AR BW ht))
          go_roundw
          case rel =>
            refine ⟨j + 1, ls ++ ([(⟨Aa, ru.length, ca⟩, ru), (⟨Ab, dl.length, cb⟩, dl), (⟨Ac, pl.length, cc⟩, pl), (⟨Ad, fl.length, cd⟩, fl), (⟨Aq, gp.length, cq⟩, gp)] ++ us), by go_num, by omega, ?_, ⟨⟨BW3.out, ?_, ?_, ?_, ?_⟩⟩⟩
            · have := HUL.out
              simp only [List.length_append, List.length_cons, List.length_nil]
              omega
            · exact ((FA3.out.app (FN3.out.perm (perm5 _ _ _ _ _ _)) HS.out.1 HS.out.2).raise HT3.out)
            · have h3 := AR3.out
              rw [List.take_of_length_le (by rw [HUL.out]; exact Nat.le_refl _)] at h3
              simpa using h3
            · intro p hp
              have hl := HF.out.lens
              rcases List.mem_append.1 hp with hp | hp
              · exact LC.out.1 p hp
              · rcases List.mem_append.1 hp with hp | hp
                · simp only [List.mem_cons, List.not_mem_nil, or_false] at hp
                  rcases hp with rfl | rfl | rfl | rfl | rfl
                  · exact hl.1
                  · exact hl.2.1
                  · exact hl.2.2.1
                  · exact hl.2.2.2.1
                  · exact hl.2.2.2.2.1
                · have h4 : p.2 ∈ us.map Prod.snd := List.mem_map_of_mem hp
                  rw [SND.out] at h4
                  obtain ⟨r, hr, he⟩ := List.mem_map.1 h4
                  rw [← he]
                  exact hl.2.2.2.2.2.2 r hr
            · have := HUL.out
              simp only [List.length_append, List.length_cons, List.length_nil]
              omega
          case measure => simp [intOf]; omega
    · have hj2 : ¬ ((j : Int) < 2) := by omega
      go_wp2
      have hln : 0 < (ls.map Prod.fst).length := by rw [List.length_map]; omega
      obtain ⟨g17, c17, e17, -⟩ := Kd.R_form L.out.arr hln
      rw [List.length_map] at e17
      subst e17
      have hn17 : ls.length ≤ 1000 := L.out.cnt
      obtain ⟨t2, ht2⟩ : ∃ t2, t2 = wr.heap.size := ⟨_, rfl⟩
      have Z : Aside0 (L2 w12 wr t2 ls [] (.slice (some ⟨g17, 0, none⟩) ls.length c17) (.slice none 0 0)) := ⟨by rw [ht2]; exact ⟨L.out.bel, ⟨L.out.bel.size, Nat.le_refl _⟩, L.out.fam, Fam.nil _ _ _, Kd.R_mono (Kd.R_bound L.out.arr) (fun k hk => hk.2.2.1), Kd.R_nil _ _ _ _ _⟩⟩
      have LN := Aside0.mk L.out.len
      clear L ht2 hln
      go_loopw [18, 30] (fun v18 v30 W => ∃ (i : Nat) (lq ws : List (Sl × List S51)), v30 = .int .i64 (i : Int) ∧ i ≤ ls.length ∧ lq.length = ls.length ∧ Aside0 (L2 w12 W t2 lq ws (.slice (some ⟨g17, 0, none⟩) ls.length c17) v18) ∧ Aside0 ((∀ p ∈ lq, p.2.length ≤ 1000) ∧ ws.map Prod.snd = (lq.take i).map Prod.snd)) (fun v18 v30 _ => ls.length - (intOf v30).toNat)
      case atStart => exact ⟨0, ls, [], rfl, Nat.zero_le _, rfl, Z, ⟨LN.out, rfl⟩⟩
      case round =>
        clear Z LN
        obtain ⟨i, lq, ws, rfl, hi, hq, Z, P⟩ := hrel
        by_cases hil : i < ls.length
        · have b1 : (0 : Int) ≤ (i : Int) := by omega
          have b2 : (i : Int) < (ls.length : Int) := by omega
          obtain ⟨⟨As, ns, cs⟩, hsi⟩ : ∃ s, s = (lq[i]'(by omega)).1 := ⟨_, rfl⟩
          have hns : ns ≤ 1000 := by
            have h1 : ns = (lq[i]'(by omega)).2.length := by
              have h := (Z.out.listC (i := i) (by omega)).1
              rw [← hsi] at h
              exact h
            have h2 := P.out.1 _ (List.getElem_mem (l := lq) (n := i) (by omega))
            omega
          have HI : Aside0 ((lq[i]?).map Prod.fst = some ⟨As, ns, cs⟩) := ⟨by rw [List.getElem?_eq_getElem (by omega), hsi]; rfl⟩
          clear hsi
          go_wp2
          go_loopw [31] (fun v31 W => ∃ (j : Nat) (lr : List (Sl × List S51)), v31 = .int .i64 (j : Int) ∧ j ≤ ns ∧ lr.length = ls.length ∧ Aside0 (L2 w12 W t2 lr ws (.slice (some ⟨g17, 0, none⟩) ls.length c17) u18) ∧ Aside0 ((∀ p ∈ lr, p.2.length ≤ 1000) ∧ ws.map Prod.snd = (lr.take i).map Prod.snd ∧ (lr[i]?).map Prod.fst = some ⟨As, ns, cs⟩)) (fun v31 _ => ns - (intOf v31).toNat)
          case atStart => exact ⟨0, lq, rfl, Nat.zero_le _, hq, Z, ⟨P.out.1, P.out.2, HI.out⟩⟩
          case round =>
            clear Z P HI
            obtain ⟨j, lr, rfl, hj, hr, Z, P⟩ := hrel
            have hir : i < lr.length := by omega
            have hfst : lr[i].1 = ⟨As, ns, cs⟩ := by
              have h := P.out.2.2
              rw [List.getElem?_eq_getElem hir] at h
              simpa using h
            have x1 : wr.cell? ⟨g17, i, none⟩ = some (.slice As ns cs) := by
              have h := Z.out.at_ hir
              rw [hfst] at h
              exact h
            have hl2 : ns = lr[i].2.length := by
              have h := (Z.out.listC hir).1
              rw [hfst] at h
              exact h
            have HFS := Aside0.mk hfst
            have HL2 := Aside0.mk hl2
            clear hfst hl2
            by_cases hjn : j < ns
            · obtain ⟨g, c, h1, ⟨q0, y0⟩, ⟨q1', y1⟩, f0, f1, Z2⟩ := Z.out.write hir (j := j) (by have := HL2.out; omega) ⟨1000 * (i : Int) + (j : Int), -1⟩
              rw [HFS.out] at h1
              injection h1 with e1 e2 e3
              subst e1
              have ZZ := Aside0.mk Z2
              have b3 : (0 : Int) ≤ (j : Int) := by omega
              have b4 : (j : Int) < (ns : Int) := by omega
              have hw1 : IntKind.i64.wrap (1000 * (i : Int)) = 1000 * (i : Int) := IntWalk.i64_in _ (by omega)
              have hw2 : IntKind.i64.wrap (1000 * (i : Int) + (j : Int)) = 1000 * (i : Int) + (j : Int) := IntWalk.i64_in _ (by omega)
              clear Z Z2 e2 e3
              go_wp2
              go_roundw
              case rel =>
                refine ⟨j + 1, lr.set i (lr[i].1, lr[i].2.set j ⟨1000 * (i : Int) + (j : Int), -1⟩), by go_num, by omega, by simp [hr], ZZ, ⟨fun p hp => ?_, ?_, ?_⟩⟩
                · rcases List.mem_or_eq_of_mem_set hp with hp | rfl
                  · exact P.out.1 p hp
                  · simp only [List.length_set]
                    exact P.out.1 _ (List.getElem_mem hir)
                · rw [P.out.2.1, List.take_set_of_le (Nat.le_refl _)]
                · rw [List.getElem?_set_self hir]
                  simp [HFS.out]
              case measure => simp [intOf]; omega
            · obtain rfl : j = ns := by omega
              have hcC := (Z.out.listC hir).2
              rw [HFS.out] at hcC
              have hsm := P.out.1 _ (List.getElem_mem hir)
              have hwl : ws.length ≤ 1000 := by
                have h := congrArg List.length P.out.2.1
                simp only [List.length_map, List.length_take] at h
                omega
              have HC := Aside0.mk hcC
              obtain ⟨li, hli⟩ : ∃ li, li = lr[i].2 := ⟨_, rfl⟩
              rw [← hli] at HC HL2 hsm
              have HLI := Aside0.mk hli
              obtain rfl := HL2.out
              clear hcC hli hjn
              go_wp2_with (first
                | (go_at_call 10; (with_reducible refine (larchlaw06_copied.calls As cs li li wr HC.out.2 HC.out.1 (copied_f li (by omega))).mono ?_); rintro e_ aC ⟨v, rfl, ho, hb⟩; obtain ⟨Aw, cw, rfl⟩ := Kd.R_slice ho; have HO := Aside0.mk ho; have HB := Aside0.mk hb; clear ho hb)
                | ((with_reducible refine gate_dst (N := 260) rfl ?_); refine Kd.event_run (v := .slice (some ⟨aC.heap.size, 0, none⟩) 1 1) (w1 := aC.alloc (.cells #[.slice Aw li.length cw] 22)) rfl ?hr ?_; (case hr => first | (go_simp; done) | (go_simp; rfl)))
                | ((with_reducible refine gate_builtin (b := .append) (xs := #[.tmp 254, .tmp 260]) rfl ?_); refine Kd.R_append_rows kSl (w0 := aC.alloc (.cells #[.slice Aw li.length cw] 22)) t2 rfl (.tmp 254) (.tmp 260) 54 22 (.slice none 0 0) 24 rfl under54 info22 rfl (by decide) (by omega) _ (ws.map Prod.fst) [⟨Aw, li.length, cw⟩] _ _ _ (fun _ => True) (fun _ => False) rfl rfl ?aO (Rr := fun x cs => kSl.K w x cs) ?aR (fun _ _ h => h) (fun _ h => h.elim) (fun _ _ => trivial) (Below.refl _ _) ?aS ?aL ?_; (case aO => exact Kd.R_alloc (Kd.R_below Z.out.arw HB.out) _); (case aR => exact lit_sls [⟨Aw, li.length, cw⟩] (by simp) (blk_new _ _)); (case aS => exact Nat.le_trans Z.out.sz.2 (Nat.le_trans HB.out.size (below_alloc (Below.refl _ _) _).size)); (case aL => simp; omega); intro v1 aD hO hB hg hat; have Z3 := Aside0.mk (Z.out.push HB.out (s := ⟨Aw, li.length, cw⟩) HO.out hg hO); clear hO hB hg hat))
              go_roundw
              case rel =>
                refine ⟨i + 1, lr, ws ++ [(⟨Aw, li.length, cw⟩, li)], by go_num, by omega, hr, Z3, ⟨P.out.1, ?_⟩⟩
                rw [List.take_add_one, List.getElem?_eq_getElem hir, Option.toList_some, List.map_append, List.map_append, P.out.2.1, HLI.out]
                rfl
              case measure => simp [intOf]; omega
        · obtain rfl : i = ls.length := by omega
          clear hil hi
          have PW : Aside0 (ws.map Prod.snd = lq.map Prod.snd) := ⟨by have h := P.out.2; rw [List.take_of_length_le (by omega)] at h; exact h⟩
          have PL := Aside0.mk P.out.1
          have hwl : ws.length = ls.length := by
            have h := congrArg List.length PW.out
            simp only [List.length_map] at h
            omega
          clear P
          obtain ⟨g18, c18, e18, -⟩ := Kd.R_form Z.out.arw (by rw [List.length_map]; omega)
          rw [List.length_map, hwl] at e18
          subst e18
          go_wp2
          go_loopw [32] (fun v32 W => ∃ (i : Nat), v32 = .int .i64 (i : Int) ∧ i ≤ ls.length ∧ Aside0 (L2 w12 W t2 lq ws (.slice (some ⟨g17, 0, none⟩) ls.length c17) (.slice (some ⟨g18, 0, none⟩) ls.length c18))) (fun v32 _ => ls.length - (intOf v32).toNat)
          case atStart => exact ⟨0, rfl, Nat.zero_le _, Z⟩
          case round =>
            clear Z
            obtain ⟨i, rfl, hi, Z⟩ := hrel
            by_cases hil : i < ls.length
            · have b1 : (0 : Int) ≤ (i : Int) := by omega
              have b2 : (i : Int) < (ls.length : Int) := by omega
              have hiq : i < lq.length := by omega
              obtain ⟨⟨As, ns, cs⟩, hsi⟩ : ∃ s, s = lq[i].1 := ⟨_, rfl⟩
              have x1 : wr.cell? ⟨g17, i, none⟩ = some (.slice As ns cs) := by
                have h := Z.out.at_ hiq
                rw [← hsi] at h
                exact h
              have RI : Aside0 (Kd.R k51 51 wr w12.heap.size (fun k => k < t2) (.slice As ns cs) lq[i].2) := ⟨by
                have h := Z.out.fam.row _ (List.getElem_mem hiq)
                rw [← hsi] at h
                exact h⟩
              have hsm := PL.out _ (List.getElem_mem hiq)
              have HSI := Aside0.mk hsi
              clear hsi
              go_wp2_with (first
                | ((with_reducible refine gate_dst (N := 274) rfl ?_); refine Kd.event_run (v := .slice (some ⟨wr.heap.size, 0, none⟩) 2 2) (w1 := wr.alloc (.cells #[.int .i64 (-5), .int .i64 0, .int .i64 (-6), .int .i64 0] 51)) rfl ?hr ?_; (case hr => first | (go_simp; done) | (go_simp; rfl)))
                | ((with_reducible refine gate_builtin (b := .append) (xs := #[.tmp 271, .tmp 274]) rfl ?_); refine append_spill k51 _ rfl (.tmp 271) (.tmp 274) 22 rfl 51 (.agg #[(.int .i64 0), (.int .i64 0)]) 16 Try.underlying22 info51 rfl (by decide) (base := w12.heap.size) (ok := fun k => k < t2) (xs := lq[i].2) rfl ?aR ⟨wr.heap.size, 0, none⟩ 2 2 [.int .i64 (-5), .int .i64 0, .int .i64 (-6), .int .i64 0] rfl (by rfl) ?aC ?a1 (by decide) ?ab1 ?ab2 ?aS ?_; (case aR => exact Kd.R_alloc RI.out _); (case aC => intro j u hj; rw [add_plain, blk_cell (blk_new _ _)]; simpa using hj); (case a1 => first | (simp [Value.oneCell']; done) | decide); (case ab1 => unfold maxLen; omega); (case ab2 => omega); (case aS => exact (below_alloc Z.out.bel _).size); intro v' a1 hR hc; have ZZ := Aside0.mk ((Z.out.below (below_alloc (Below.refl _ _) _)).spill hiq (by rw [← HSI.out]; exact hc) (by rw [← HSI.out]; exact hR)); clear hR hc))
              go_roundw
              case rel => exact ⟨i + 1, by go_num, by omega, ZZ⟩
              case measure => simp [intOf]; omega
            · obtain rfl : i = ls.length := by omega
              clear hil hi
              go_wp2
              go_loopw [33] (fun v33 W => ∃ (i : Nat), v33 = .int .i64 (i : Int) ∧ i ≤ ls.length ∧ Aside0 (L2 w12 W t2 lq ws (.slice (some ⟨g17, 0, none⟩) ls.length c17) (.slice (some ⟨g18, 0, none⟩) ls.length c18))) (fun v33 _ => ls.length - (intOf v33).toNat)
              case atStart => exact ⟨0, rfl, Nat.zero_le _, Z⟩
              case round =>
                clear Z
                obtain ⟨i, rfl, hi, Z⟩ := hrel
                by_cases hil : i < ls.length
                · have b1 : (0 : Int) ≤ (i : Int) := by omega
                  have b2 : (i : Int) < (ls.length : Int) := by omega
                  have hiq : i < lq.length := by omega
                  have hiw : i < ws.length := by omega
                  obtain ⟨li, hli⟩ : ∃ li, li = lq[i].2 := ⟨_, rfl⟩
                  have hlw : li = ws[i].2 := by
                    have h := congrArg (fun l => l[i]?) PW.out
                    simp only [List.getElem?_map, List.getElem?_eq_getElem hiq, List.getElem?_eq_getElem hiw, Option.map_some, Option.some.injEq] at h
                    rw [hli, h]
                  have hsm := PL.out _ (List.getElem_mem hiq)
                  rw [← hli] at hsm
                  obtain ⟨⟨As, ns, cs⟩, hsi⟩ : ∃ s, s = lq[i].1 := ⟨_, rfl⟩
                  obtain ⟨⟨Bs, ms, ds⟩, hwi⟩ : ∃ s, s = ws[i].1 := ⟨_, rfl⟩
                  have h1 := Z.out.listC hiq
                  rw [← hsi, ← hli] at h1
                  obtain ⟨rfl, h1b, h1c⟩ := h1
                  have h2 := Z.out.wanC hiw
                  rw [← hwi, ← hlw] at h2
                  obtain ⟨rfl, h2b, h2c⟩ := h2
                  have atAll : Aside0 (∀ W', L2 w12 W' t2 lq ws (.slice (some ⟨g17, 0, none⟩) ls.length c17) (.slice (some ⟨g18, 0, none⟩) ls.length c18) → W'.cell? ⟨g17, i, none⟩ = some (.slice As li.length cs) ∧ W'.cell? ⟨g18, i, none⟩ = some (.slice Bs li.length ds)) := ⟨fun W' h => ⟨by
                    have h3 := h.at_ hiq
                    rw [← hsi] at h3
                    exact h3, by
                    obtain ⟨g, e, h3⟩ := h.atw hiw
                    injection e with e
                    injection e with e
                    subst e
                    rw [← hwi] at h3
                    exact h3⟩⟩
                  have HC := Aside0.mk (And.intro h1c (And.intro h1b (And.intro h2c h2b)))
                  obtain ⟨x1, x2⟩ := atAll.out _ Z.out
                  clear hsi hwi hli hlw h1b h1c h2b h2c
                  go_wp2
                  go_region_held3 (fun W' => W'.cell? ⟨g17, i, none⟩ = some (.slice As li.length cs) ∧ W'.cell? ⟨g18, i, none⟩ = some (.slice Bs li.length ds)) (first | (with_reducible exact atAll.out _ Z.out) | (with_reducible exact atAll.out _ Z.out.drew) | (with_reducible exact atAll.out _ ZZ.out)) (first
                    | (go_at_call 12; (with_reducible refine (larchref06_Same.calls k As cs li Bs ds li true wr.drew (Kd.C_below HC.out.1 (below_drew1 (Below.refl _ _))) HC.out.2.1 (Kd.C_below HC.out.2.2.1 (below_drew1 (Below.refl _ _))) HC.out.2.2.2 (HF.out.same li hsm)).mono ?_); rintro e_ a1 ⟨rfl, hd⟩; have ZZ := Aside0.mk (Z.out.drew.below hd.below); clear hd))
                  go_wp2
                  go_roundw
                  case rel => exact ⟨i + 1, by go_num, by omega, ZZ⟩
                  case measure => simp [intOf]; omega
                · obtain rfl : i = ls.length := by omega
                  clear hil hi
                  have C := Aside0.mk (C12.out.below Z.out.bel)
                  have M := Aside0.mk (M12.out.below Z.out.bel)
                  clear Z PW PL hq hwl C12 M12 WR12
                  have hgm := headOf (Kd.R_form M.out.mx (by rw [HXmx.out]; simp))
                  obtain ⟨gm, hgm⟩ := hgm
                  subst hgm
                  have hgo := headOf (Kd.R_form M.out.ox (by rw [HXox.out]; simp))
                  obtain ⟨go, hgo⟩ := hgo
                  subst hgo
                  have hmxl : mx.length = m.length + 2 := by rw [HXmx.out]; simp
                  have hoxl : ox.length = ops.length + 1 := by rw [HXox.out]; simp
                  have hwm : IntKind.i64.wrap ((m.length : Int) + 1) = (m.length : Int) + 1 := IntWalk.i64_in _ (by have := HLEN.out; omega)
                  have bm0 : (0 : Int) ≤ (m.length : Int) := by omega
                  have bm1 : (m.length : Int) < (mx.length : Int) := by omega
                  have bm2 : (0 : Int) ≤ (m.length : Int) + 1 := by omega
                  have bm3 : (m.length : Int) + 1 < (mx.length : Int) := by omega
                  have bo0 : (0 : Int) ≤ (ops.length : Int) := by omega
                  have bo1 : (ops.length : Int) < (ox.length : Int) := by omega
                  obtain ⟨y0⟩ : Aside0 _ := ⟨boxm0 C.out.box⟩
                  go_wp2_with (first
                    | (go_at_call 12; (with_reducible refine (larchref06_Same.calls k (some ⟨gm, 0, none⟩) cmx m A0 c0 m true wr (M.out.mC HXmx.out).1 (M.out.mC HXmx.out).2 (Kd.C_below HRM.out C.out.bel) HMC.out (HF.out.same m (by have := HLEN.out; omega))).mono ?_); rintro e_ e1 ⟨rfl, hd⟩; have C1 := Aside0.mk (C.out.below hd.below); have M1 := Aside0.mk (M.out.below hd.below); obtain ⟨u71, -, -, -⟩ := row51 M1.out.mx (i := m.length) (p := ⟨71, 0⟩) (by rw [HXmx.out, List.getElem?_append_right (Nat.le_refl _), Nat.sub_self]; rfl); obtain ⟨u72, -, -, -⟩ := row51 M1.out.mx (i := m.length + 1) (p := ⟨72, 0⟩) (by rw [HXmx.out, List.getElem?_append_right (by omega), show m.length + 1 - m.length = 1 by omega]; rfl); clear hd y0; obtain ⟨y1⟩ : Aside0 _ := ⟨boxm1 C1.out.box⟩)
                    | (go_at_call 12; (with_reducible refine (larchref06_Same.calls k An cn nn A1 c1 nn true e1 (C1.out.rowC (A := An) (c := cn) (l := nn) (by simp)).1 (C1.out.rowC (A := An) (c := cn) (l := nn) (by simp)).2 (Kd.C_below HRN.out C1.out.bel) HNC.out (HF.out.same nn (by have := HLEN.out; omega))).mono ?_); rintro e_ e2 ⟨rfl, hd⟩; have C2 := Aside0.mk (C1.out.below hd.below); have M2 := Aside0.mk (M1.out.below hd.below); obtain ⟨u99, -, -, -⟩ := row25 M2.out.ox (i := ops.length) (p := ⟨99, 0, 0, 0⟩) (by rw [HXox.out, List.getElem?_append_right (Nat.le_refl _), Nat.sub_self]; rfl); clear hd y1 u71 u72))
                  have F : Aside0 (L5 w e2 (boxL A0 A1 B2 B3 A4 m.length nn.length ops.length more.length ps.length c0 c1 d2 d3 c4 o0 o1 o2 o3 b q1 q2 kk hh) B2 d2 ops gm cmx mx.length mx (some ⟨go, 0, none⟩) cox ox) := ⟨⟨C2.out.box, C2.out.bel, M2.out.op, M2.out.mx, M2.out.ox⟩⟩
                  clear C C1 C2 M M1 M2 u99 bm0 bm1 bm2 bm3 bo0 bo1 hwm
                  go_loopw [34] (fun v34 W => ∃ (i : Nat), v34 = .int .i64 (i : Int) ∧ i ≤ ops.length ∧ Aside0 (L5 w W (boxL A0 A1 B2 B3 A4 m.length nn.length ops.length more.length ps.length c0 c1 d2 d3 c4 o0 o1 o2 o3 b q1 q2 kk hh) B2 d2 ops gm cmx mx.length mx (some ⟨go, 0, none⟩) cox ox)) (fun v34 _ => ops.length - (intOf v34).toNat)
                  case atStart => exact ⟨0, rfl, Nat.zero_le _, F⟩
                  case round =>
                    clear F
                    obtain ⟨i, rfl, hi, F⟩ := hrel
                    by_cases hio : i < ops.length
                    · have b1 : (0 : Int) ≤ (i : Int) := by omega
                      have b2 : (i : Int) < (ops.length : Int) := by omega
                      have b3 : (i : Int) < (ox.length : Int) := by omega
                      obtain ⟨⟨p0, p1, p2, p3⟩, hop⟩ : ∃ o, o = ops[i] := ⟨_, rfl⟩
                      have ho1 : ops[i]? = some ⟨p0, p1, p2, p3⟩ := by rw [List.getElem?_eq_getElem hio, hop]
                      have ho2 : ox[i]? = some ⟨p0, p1, p2, p3⟩ := by rw [HXox.out, List.getElem?_append_left hio]; exact ho1
                      obtain ⟨gb, hgb⟩ := headOf (Kd.R_form F.out.op (by omega))
                      subst hgb
                      have KA : Aside0 (∀ W', (L5 w W' (boxL A0 A1 (some ⟨gb, 0, none⟩) B3 A4 m.length nn.length ops.length more.length ps.length c0 c1 d2 d3 c4 o0 o1 o2 o3 b q1 q2 kk hh) (some ⟨gb, 0, none⟩) d2 ops gm cmx mx.length mx (some ⟨go, 0, none⟩) cox ox) → W'.cell? ⟨w.heap.size, 2, none⟩ = some (.slice (some ⟨gb, 0, none⟩) ops.length d2) ∧ W'.cell? ⟨gb, i * 4, none⟩ = some (.int .i64 p0) ∧ W'.cell? ⟨gb, i * 4 + 1, none⟩ = some (.int .i64 p1) ∧ W'.cell? ⟨gb, i * 4 + 2, none⟩ = some (.int .i64 p2) ∧ W'.cell? ⟨gb, i * 4 + 3, none⟩ = some (.int .i64 p3) ∧ W'.cell? ⟨go, i * 4, none⟩ = some (.int .i64 p0) ∧ W'.cell? ⟨go, i * 4 + 1, none⟩ = some (.int .i64 p1) ∧ W'.cell? ⟨go, i * 4 + 2, none⟩ = some (.int .i64 p2) ∧ W'.cell? ⟨go, i * 4 + 3, none⟩ = some (.int .i64 p3)) := ⟨fun W' h => by
                        obtain ⟨a0, a1, a2, a3⟩ := row25 h.op ho1
                        obtain ⟨d0, d1, d2', d3⟩ := row25 h.ox ho2
                        exact ⟨boxm2 h.box, a0, a1, a2, a3, d0, d1, d2', d3⟩⟩
                      clear hop ho1 ho2
                      go_wp2
                      go_region_held3 (fun W' => W'.cell? ⟨w.heap.size, 2, none⟩ = some (.slice (some ⟨gb, 0, none⟩) ops.length d2) ∧ W'.cell? ⟨gb, i * 4, none⟩ = some (.int .i64 p0) ∧ W'.cell? ⟨gb, i * 4 + 1, none⟩ = some (.int .i64 p1) ∧ W'.cell? ⟨gb, i * 4 + 2, none⟩ = some (.int .i64 p2) ∧ W'.cell? ⟨gb, i * 4 + 3, none⟩ = some (.int .i64 p3) ∧ W'.cell? ⟨go, i * 4, none⟩ = some (.int .i64 p0) ∧ W'.cell? ⟨go, i * 4 + 1, none⟩ = some (.int .i64 p1) ∧ W'.cell? ⟨go, i * 4 + 2, none⟩ = some (.int .i64 p2) ∧ W'.cell? ⟨go, i * 4 + 3, none⟩ = some (.int .i64 p3)) (first | (with_reducible exact KA.out _ F.out) | (with_reducible exact KA.out _ (F.out.below (below_drew1 (Below.refl _ _))))) (fail)
                      go_wp2
                      go_roundw
                      case rel => exact ⟨i + 1, by go_num, by omega, ⟨F.out.below (below_drew1 (Below.refl _ _))⟩⟩
                      case measure => simp [intOf]; omega
                    · obtain rfl : i = ops.length := by omega
                      clear hio hi
                      go_wp2
                      go_loopw [35] (fun v35 W => ∃ (i : Nat), v35 = .int .i64 (i : Int) ∧ i ≤ m.length ∧ Aside0 (L5 w W (boxL A0 A1 B2 B3 A4 m.length nn.length ops.length more.length ps.length c0 c1 d2 d3 c4 o0 o1 o2 o3 b q1 q2 kk hh) B2 d2 ops gm cmx mx.length (spL i m ++ ([⟨71, 0⟩, ⟨72, 0⟩] : List S51)) (some ⟨go, 0, none⟩) cox ox)) (fun v35 _ => m.length - (intOf v35).toNat)
                      case atStart => exact ⟨0, rfl, Nat.zero_le _, ⟨by rw [spL_zero, ← HXmx.out]; exact F.out⟩⟩
                      case round =>
                        clear F
                        obtain ⟨i, rfl, hi, F⟩ := hrel
                        have hmm3 := HLEN.out.1
                        by_cases him : i < m.length
                        · have b1 : (0 : Int) ≤ (i : Int) := by omega
                          have b2 : (i : Int) < (m.length : Int) := by omega
                          obtain ⟨⟨p0, p1⟩, hp⟩ : ∃ p, p = m[i] := ⟨_, rfl⟩
                          obtain ⟨c0', c1', f0, f1⟩ := row51 F.out.mx (i := i) (p := ⟨p0, p1⟩) (by rw [List.getElem?_append_left (by rw [spL_len]; exact him), spL_at him, if_neg (Nat.lt_irrefl _), hp])
                          have ZZ := Aside0.mk (F.out.write (i := i) (by rw [List.length_append, spL_len]; omega) ⟨3 * (i : Int), m[i].f1⟩)
                          rw [spL_set him, ← hp] at ZZ
                          have hw3 : IntKind.i64.wrap (3 * (i : Int)) = 3 * (i : Int) := IntWalk.i64_in _ (by omega)
                          clear F hp
                          go_wp2
                          go_roundw
                          case rel => exact ⟨i + 1, by go_num, by omega, ZZ⟩
                          case measure => simp [intOf]; omega
                        · obtain rfl : i = m.length := by omega
                          clear him hi
                          obtain ⟨ys, hys⟩ : ∃ ys, ys = spL m.length m := ⟨_, rfl⟩
                          have hyl : ys.length = m.length := by rw [hys, spL_len]
                          rw [← hys] at F
                          have HR2' : Aside0 (model_Run.f ys ops = some (ru2, rs2, re2) ∧ larchref06_Run.f k ys ops = some (ru2, rs2, re2)) := ⟨by rw [hys]; exact ⟨HF.out.run2, HF.out.rrun2⟩⟩
                          have YC : Aside0 (∀ W', (L5 w W' (boxL A0 A1 B2 B3 A4 m.length nn.length ops.length more.length ps.length c0 c1 d2 d3 c4 o0 o1 o2 o3 b q1 q2 kk hh) B2 d2 ops gm cmx mx.length (ys ++ ([⟨71, 0⟩, ⟨72, 0⟩] : List S51)) (some ⟨go, 0, none⟩) cox ox) → Kd.C k51 W' (some ⟨gm, 0, none⟩) m.length ys ∧ m.length ≤ cmx) := ⟨fun W' h => by
                            have h1 := Kd.R_reads' h.mx
                            have h2 := Kd.C_take (m := ys.length) h1.2.2 (by simp)
                            rw [show (ys ++ ([⟨71, 0⟩, ⟨72, 0⟩] : List S51)).take ys.length = ys by simp, hyl] at h2
                            have h3 := h1.1
                            rw [List.length_append, hyl] at h3
                            exact ⟨h2, by have := h1.2.1; omega⟩⟩
                          have OC : Aside0 (∀ W', (L5 w W' (boxL A0 A1 B2 B3 A4 m.length nn.length ops.length more.length ps.length c0 c1 d2 d3 c4 o0 o1 o2 o3 b q1 q2 kk hh) B2 d2 ops gm cmx mx.length (ys ++ ([⟨71, 0⟩, ⟨72, 0⟩] : List S51)) (some ⟨go, 0, none⟩) cox ox) → Kd.C k25 W' (some ⟨go, 0, none⟩) ops.length ops ∧ ops.length ≤ cox) := ⟨fun W' h => by
                            have h1 := Kd.R_reads' h.ox
                            have h2 := Kd.C_take (m := ops.length) h1.2.2 (by rw [HXox.out]; simp)
                            rw [show ox.take ops.length = ops by rw [HXox.out]; simp] at h2
                            exact ⟨h2, by omega⟩⟩
                          have hcp := larchlaw06_copied.calls (some ⟨gm, 0, none⟩) cmx ys ys wr (by rw [hyl]; exact (YC.out _ F.out).1) (by rw [hyl]; exact (YC.out _ F.out).2) (copied_f ys (by omega))
                          rw [hyl] at hcp
                          have HCP := Aside0.mk hcp
                          have HYL := Aside0.mk hyl
                          clear hcp hys hyl
                          go_wp2_with (first
                            | (go_at_call 10; (with_reducible refine HCP.out.mono ?_); rintro e_ x1 ⟨v, rfl, ho, hb⟩; obtain ⟨Anw, cnw, rfl⟩ := Kd.R_slice ho; rw [HYL.out]; have NW := Aside0.mk (Kd.R_reads' ho); have F1 := Aside0.mk (F.out.below hb); clear ho hb HCP)
                            | (go_at_call 14; have hcr := model_Run.calls (some ⟨gm, 0, none⟩) cmx ys (some ⟨go, 0, none⟩) cox ops ru2 rs2 re2 x1 (by rw [HYL.out]; exact (YC.out _ F1.out).1) (by rw [HYL.out]; exact (YC.out _ F1.out).2) (OC.out _ F1.out).1 (OC.out _ F1.out).2 HR2'.out.1; rw [HYL.out] at hcr; (with_reducible refine hcr.mono ?_); clear hcr; rintro e_ x2 ⟨v, u, rfl, hR, hS, hb⟩; obtain ⟨Ae, ce, rfl⟩ := Kd.R_slice hR; obtain ⟨Af, cf, rfl⟩ := Kd.S_slice hS; have NW2 := Aside0.mk (Kd.C_below NW.out.2.2 hb); have F2 := Aside0.mk (F1.out.below hb); have E2 := Aside0.mk (Kd.R_reads' hR); have S2 := Aside0.mk (Kd.S_reads' hS); clear hR hS hb; obtain ⟨y2⟩ : Aside0 _ := ⟨boxm2 F2.out.box⟩)
                            | (go_at_call 16; have hcr := larchref06_Run.calls k Anw cnw ys B2 d2 ops ru2 rs2 re2 x2 NW2.out NW.out.2.1 (Kd.R_reads' F2.out.op).2.2 (Kd.R_reads' F2.out.op).2.1 HR2'.out.2; rw [HYL.out] at hcr; (with_reducible refine hcr.mono ?_); clear hcr; rintro e_ x3 ⟨v, u, rfl, hR, hS, hb⟩; obtain ⟨Ag, cg, rfl⟩ := Kd.R_slice hR; obtain ⟨Ah, ch, rfl⟩ := Kd.S_slice hS; have NW3 := Aside0.mk (Kd.C_below NW2.out hb); have F3 := Aside0.mk (F2.out.below hb); have E3 := Aside0.mk (Kd.C_below E2.out.2.2 hb); have S3 := Aside0.mk (Kd.C_below S2.out.2.2 hb); have G3 := Aside0.mk (Kd.R_reads' hR); have T3 := Aside0.mk (Kd.S_reads' hS); clear hR hS hb y2)
                            | (go_at_call 12; (with_reducible refine (larchref06_Same.calls k Ae ce ru2 Ag cg ru2 true x3 E3.out E2.out.2.1 G3.out.2.2 G3.out.2.1 (HF.out.same ru2 HF.out.len2)).mono ?_); rintro e_ x4 ⟨rfl, hd⟩; have hb := hd.below; have NW4 := Aside0.mk (Kd.C_below NW3.out hb); have F4 := Aside0.mk (F3.out.below hb); have S4 := Aside0.mk (Kd.C_below S3.out hb); have T4 := Aside0.mk (Kd.C_below T3.out.2.2 hb); clear hd hb)
                            | (go_at_call 17; (with_reducible refine (larchref06_SameRets.calls k Af cf rs2 Ah ch rs2 true x4 S4.out S2.out.2.1 T4.out T3.out.2.1 HF.out.srets2).mono ?_); rintro e_ x5 ⟨rfl, hb⟩; have NW5 := Aside0.mk (Kd.C_below NW4.out hb); have F5 := Aside0.mk (F4.out.below hb); clear hb)
                            | (go_at_call 12; have hcr := larchref06_Same.calls k (some ⟨gm, 0, none⟩) cmx ys Anw cnw ys true x5 (by rw [HYL.out]; exact (YC.out _ F5.out).1) (by rw [HYL.out]; exact (YC.out _ F5.out).2) NW5.out NW.out.2.1 (HF.out.same ys (by have := HYL.out; omega)); rw [HYL.out] at hcr; (with_reducible refine hcr.mono ?_); clear hcr; rintro e_ x6 ⟨rfl, hd⟩; have F6 := Aside0.mk (F5.out.below hd.below); clear hd))
                          go_ret
                          exact ⟨rfl, F6.out.bel⟩
end Go.Proofs.Ytanlnfcjdjamaaa.P
