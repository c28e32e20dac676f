/- P.modelLists_holds, part 31 of 33: the contracts of the Go functions that the law calls, its own walk, and its plain law, for every input that the statement speaks of. -/
import Derived.Test.YtanlnfcjdjamaaaMLi29
import Derived.Test.YtanlnfcjdjamaaaMLi25
import Derived.Test.YtanlnfcjdjamaaaMLi24
import Derived.Test.YtanlnfcjdjamaaaMLi2
import Derived.Test.YtanlnfcjdjamaaaMLi26
import Derived.Test.YtanlnfcjdjamaaaMLi3
import Derived.Test.YtanlnfcjdjamaaaMLi8
set_option linter.unusedVariables false
set_option linter.unusedSimpArgs false
/- E18 -/
namespace Go.Proofs.Ytanlnfcjdjamaaa.P
open Go.RowKit Go.Proofs.YtanlnfcjdjamaaaW.PrintWords Go.Proofs.YtanlnfcjdjamaaaW.PrintLast Go.Proofs.YtanlnfcjdjamaaaW.PrintMore
theorem eqA25 (d : Nat) (w : World) (x0 y0 : Int) (x1 y1 : Int) (x2 y2 : Int) (x3 y3 : Int) :
    (Op.equalIn (d + 2) 25 (.agg #[.int .i64 x0, .int .i64 x1, .int .i64 x2, .int .i64 x3]) (.agg #[.int .i64 y0, .int .i64 y1, .int .i64 y2, .int .i64 y3])).run Try.prog w = .ok (x0 == y0 && (x1 == y1 && (x2 == y2 && (x3 == y3)))) w := by
  refine eqA_of Try.underlying25 (by kernel_rfl) ?_
  refine eqf_cons (by rfl) (by go_simp; rfl) (by go_simp; rfl) (by go_simp) ?_
  refine eqf_cons (by rfl) (by go_simp; rfl) (by go_simp; rfl) (by go_simp) ?_
  refine eqf_cons (by rfl) (by go_simp; rfl) (by go_simp; rfl) (by go_simp) ?_
  exact eqf_last (by rfl) (by go_simp; rfl) (by go_simp; rfl) (by go_simp)
attribute [local go_sem high] eqA25
structure Bx (w W : World) (cs : Array Value) : Prop where
  box : W.heap[w.heap.size]? = some (.cells cs 29 (0, 0))
  bel : Below w.heap.size w W
theorem Bx.below {w W W' : World} {cs : Array Value} (h : Bx w W cs) (hb : Below W.heap.size W W') : Bx w W' cs := ⟨blk_below h.box hb, below_step h.bel hb⟩
theorem Bx.drew {w W : World} {cs : Array Value} (h : Bx w W cs) : Bx w W.drew cs := h.below (below_drew1 (Below.refl _ _))
theorem Bx.alloc {w W : World} {cs : Array Value} (h : Bx w W cs) (o : Obj) : Bx w (W.alloc o) cs := h.below (below_alloc (Below.refl _ _) o)
section
variable {W : World} {n : Nat} {A0 A1 B2 B3 A4 : Option Addr} {n0 n1 n2 n3 n4 c0 c1 d2 d3 c4 : Nat} {o0 o1 o2 o3 : Int} {b : Bool} {q1 q2 kk hh : Int}
theorem boxq (h : W.heap[n]? = some (.cells (boxL A0 A1 B2 B3 A4 n0 n1 n2 n3 n4 c0 c1 d2 d3 c4 o0 o1 o2 o3 b q1 q2 kk hh) 29 (0, 0))) :
    W.cell? ⟨n, 1, none⟩ = some (.slice A1 n1 c1) ∧ W.cell? ⟨n, 8, none⟩ = some (.bool b) ∧ W.cell? ⟨n, 9, none⟩ = some (.int .i64 q1) ∧ W.cell? ⟨n, 10, none⟩ = some (.int .i64 q2) :=
  ⟨(blk_cell h 1).trans rfl, (blk_cell h 8).trans rfl, (blk_cell h 9).trans rfl, (blk_cell h 10).trans rfl⟩
theorem boxk (h : W.heap[n]? = some (.cells (boxL A0 A1 B2 B3 A4 n0 n1 n2 n3 n4 c0 c1 d2 d3 c4 o0 o1 o2 o3 b q1 q2 kk hh) 29 (0, 0))) :
    W.cell? ⟨n, 0, none⟩ = some (.slice A0 n0 c0) ∧ W.cell? ⟨n, 1, none⟩ = some (.slice A1 n1 c1) ∧ W.cell? ⟨n, 12, none⟩ = some (.int .i64 kk) ∧ W.cell? ⟨n, 13, none⟩ = some (.int .i64 hh) :=
  ⟨(blk_cell h 0).trans rfl, (blk_cell h 1).trans rfl, (blk_cell h 12).trans rfl, (blk_cell h 13).trans rfl⟩
end
structure Tx (w W : World) (g : Nat) (q0 : Bool) (q1 q2 : Int) (A : Option Addr) (c : Nat) (ps : List S51) : Prop where
  ret : W.heap[g]? = some (.cells (rC q0 q1 q2 (.slice A ps.length c)) 27 (0, 0))
  gp : Kd.R k51 51 W w.heap.size (fun _ => True) (.slice A ps.length c) ps
theorem Tx.below {w W W' : World} {g : Nat} {q0 : Bool} {q1 q2 : Int} {A : Option Addr} {c : Nat} {ps : List S51} (h : Tx w W g q0 q1 q2 A c ps) (hb : Below W.heap.size W W') : Tx w W' g q0 q1 q2 A c ps := ⟨blk_below h.ret hb, Kd.R_below h.gp hb⟩
section
variable {w W : World} {g : Nat} {A0 A1 B2 B3 A4 Ag : Option Addr} {n0 n1 n2 n3 n4 c0 c1 d2 d3 c4 cg : Nat} {o0 o1 o2 o3 : Int} {b b' : Bool} {q1 q2 q1' q2' kk hh : Int} {ps : List S51}
theorem listcells (h : W.heap[w.heap.size]? = some (.cells (boxL A0 A1 B2 B3 A4 n0 n1 n2 n3 n4 c0 c1 d2 d3 c4 o0 o1 o2 o3 b q1 q2 kk hh) 29 (0, 0))) (ht : Tx w W g b' q1' q2' Ag cg ps) :
    W.cell? ⟨w.heap.size, 0, none⟩ = some (.slice A0 n0 c0) ∧ W.cell? ⟨w.heap.size, 1, none⟩ = some (.slice A1 n1 c1) ∧ W.cell? ⟨w.heap.size, 8, none⟩ = some (.bool b) ∧ W.cell? ⟨w.heap.size, 9, none⟩ = some (.int .i64 q1) ∧ W.cell? ⟨w.heap.size, 10, none⟩ = some (.int .i64 q2) ∧ W.cell? ⟨w.heap.size, 11, none⟩ = some (.slice A4 n4 c4) ∧
    W.cell? ⟨g, 0, none⟩ = some (.bool b') ∧ W.cell? ⟨g, 1, none⟩ = some (.int .i64 q1') ∧ W.cell? ⟨g, 2, none⟩ = some (.int .i64 q2') ∧ W.cell? ⟨g, 3, none⟩ = some (.slice Ag ps.length cg) :=
  ⟨(blk_cell h 0).trans rfl, (blk_cell h 1).trans rfl, (blk_cell h 8).trans rfl, (blk_cell h 9).trans rfl, (blk_cell h 10).trans rfl, (blk_cell h 11).trans rfl, ans4 ht.ret⟩
end
structure Lists (k : Nat) (m nn : List S51) (o0 o1 o2 o3 : Int) (b : Bool) (q1 q2 : Int) (ps : List S51) (kk hh : Int) (ck kd p0 p1 p2 p3 : Int) (ch : Bool) (fl : List S51) (fi : Int) (fb : Bool) (fe : Int) (pl : List S51) (pe : Int) (dl : List Int) (de : Int) (sm sr : Bool) : Prop where
  fixed : larchlaw06_fixed.f k = some true
  small : m.length < 100000000
  smalln : nn.length < 100000000
  chk : model_Check.f k m = some ck
  rchk : larchref06_Check.f k m = some ck
  kind : model_Kind.f o0 = some kd
  rkind : larchref06_Kind.f o0 = some kd
  plain : model_Plain.f k o0 o1 o2 o3 = some (p0, p1, p2, p3)
  rplain : larchref06_Plain.f k o0 o1 o2 o3 = some (p0, p1, p2, p3)
  chg : model_Changes.f o0 = some ch
  rchg : larchref06_Changes.f o0 = some ch
  of_ : model_Of.f m = some fl
  rof : larchref06_Of.f k m = some fl
  sof : larchref06_Same.f k fl fl = some true
  find : model_Find.f k m kk = some (fi, fb, fe)
  rfind : larchref06_Find.f k m kk = some (fi, fb, fe)
  part : model_Part.f k m kk hh = some (pl, pe)
  rpart : larchref06_Part.f k m kk hh = some (pl, pe)
  spart : larchref06_Same.f k pl pl = some true
  diff : model_Differ.f k m nn = some (dl, de)
  rdiff : larchref06_Differ.f k m nn = some (dl, de)
  same : model_Same.f k m nn = some sm
  rsame : larchref06_Same.f k m nn = some sm
  sret : model_SameRet.f k b q1 q2 ps b q1 q2 nn = some sr
  rsret : larchref06_SameRet.f k b q1 q2 ps b q1 q2 nn = some sr
  same2 : model_Same.f k m m = some true
  sret2 : model_SameRet.f k b q1 q2 nn b q1 q2 nn = some true
set_option maxHeartbeats 100000000 in
set_option maxRecDepth 100000 in
theorem larchlaw06_ModelLists_calls (k : Nat) (A0 A1 A2 A3 A4 : Option Addr) (c0 c1 c2 c3 c4 : Nat) (l0 l1 : List S51) (l2 l3 : List S25) (o0 o1 o2 o3 : Int) (b : Bool) (q1 q2 : Int) (ps : List S51) (kk hh : Int) (ck kd p0 p1 p2 p3 : Int) (ch : Bool) (fl : List S51) (fi : Int) (fb : Bool) (fe : Int) (pl : List S51) (pe : Int) (dl : List Int) (de : Int) (sm sr : Bool) (w : World)
    (h0 : l0.length ≤ c0) (hr0 : Kd.C k51 w A0 l0.length l0) (h1 : l1.length ≤ c1) (hr1 : Kd.C k51 w A1 l1.length l1) (h2 : l2.length ≤ c2) (hr2 : Kd.C k25 w A2 l2.length l2) (h3 : l3.length ≤ c3) (hr3 : Kd.C k25 w A3 l3.length l3) (h4 : ps.length ≤ c4) (hr4 : Kd.C k51 w A4 ps.length ps)
    (h : Lists k (l0.take 300) (l1.take 300) o0 o1 o2 o3 b q1 q2 ps kk hh ck kd p0 p1 p2 p3 ch fl fi fb fe pl pe dl de sm sr) :
    Calls Try.prog 6 #[.agg #[.slice A0 l0.length c0, .slice A1 l1.length c1, .slice A2 l2.length c2, .slice A3 l3.length c3, .int .i64 o0, .int .i64 o1, .int .i64 o2, .int .i64 o3, .bool b, .int .i64 q1, .int .i64 q2, .slice A4 ps.length c4, .int .i64 kk, .int .i64 hh]] w fun e w' => e = .returned (.bool true) ∧ Below w.heap.size w w' := by
  have hu25 := Try.underlying25
  have hu27 := Try.underlying27
  have hu51 := Try.underlying51
  have hu29 := Try.underlying29
  have hl0 : l0.length ≤ 9223372036854775807 := hr0.2.1
  have hl1 : l1.length ≤ 9223372036854775807 := hr1.2.1
  obtain ⟨m, hm⟩ : ∃ m, m = l0.take 300 := ⟨_, rfl⟩
  obtain ⟨nn, hnn⟩ : ∃ nn, nn = l1.take 300 := ⟨_, rfl⟩
  obtain ⟨ops, hops⟩ : ∃ ops, ops = l2.take 300 := ⟨_, rfl⟩
  obtain ⟨more, hmore⟩ : ∃ more, more = l3.take 300 := ⟨_, rfl⟩
  have hmm : m.length = min l0.length 300 := by rw [hm, List.length_take, Nat.min_comm]
  have hnm : nn.length = min l1.length 300 := by rw [hnn, List.length_take, Nat.min_comm]
  have hrm : Kd.C k51 w A0 m.length m := by rw [hm]; exact take_C hr0 300
  have hrn : Kd.C k51 w A1 nn.length nn := by rw [hnn]; exact take_C hr1 300
  have hmc : m.length ≤ c0 := by rw [hmm]; omega
  have hnc : nn.length ≤ c1 := by rw [hnm]; omega
  rw [← hm, ← hnn] at h
  have HF := Aside0.mk h
  have HL := less_calls A0 A1 A2 A3 c0 c1 c2 c3 l0 l1 l2 l3 o0 o1 o2 o3 b q1 q2 A4 ps.length c4 kk hh
  rw [← hops, ← hmore] at HL
  have HMM := Aside0.mk hmm
  have HNM := Aside0.mk hnm
  have HMC := Aside0.mk hmc
  have HNC := Aside0.mk hnc
  have HRM := Aside0.mk hrm
  have HRN := Aside0.mk hrn
  have HR2 := Aside0.mk hr2
  have HR3 := Aside0.mk hr3
  have HR4 := Aside0.mk hr4
  have HLL := Aside0.mk HL
  have HQ := Aside0.mk (And.intro h0 (And.intro h1 (And.intro h2 (And.intro h3 (And.intro h4 (And.intro hl0 hl1))))))
  clear h hm hmm hmc hnn hnm hrn hnc hrm hr0 hr1 hr2 hr3 hr4 HL h0 h1 h2 h3 h4 hl0 hl1 hops hmore
  obtain ⟨Wa, hWa⟩ : ∃ Wa, Wa = w.alloc (.cells #[.slice A0 l0.length c0, .slice A1 l1.length c1, .slice A2 l2.length c2, .slice A3 l3.length c3, .int .i64 o0, .int .i64 o1, .int .i64 o2, .int .i64 o3, .bool b, .int .i64 q1, .int .i64 q2, .slice A4 ps.length c4, .int .i64 kk, .int .i64 hh] 29) := ⟨_, rfl⟩
  have hBa : Below w.heap.size w Wa := by rw [hWa]; exact below_alloc (Below.refl _ _) _
  have hXa : Wa.heap[w.heap.size]? = some (.cells #[.slice A0 l0.length c0, .slice A1 l1.length c1, .slice A2 l2.length c2, .slice A3 l3.length c3, .int .i64 o0, .int .i64 o1, .int .i64 o2, .int .i64 o3, .bool b, .int .i64 q1, .int .i64 q2, .slice A4 ps.length c4, .int .i64 kk, .int .i64 hh] 29 (0, 0)) := by rw [hWa]; exact blk_new w _
  have HWA := Aside0.mk hWa
  have HBA := Aside0.mk hBa
  have HXA := Aside0.mk hXa
  clear hWa hBa hXa
  go_enter Try.func6, Try.ntmps6
  go_wp2_with (first
    | (go_at_call 7; rw [← HWA.out]; (with_reducible refine (larchlaw06_fixed.calls k true Wa HF.out.fixed).mono ?_); rintro e_ w1 ⟨rfl, hb⟩; have HX1 := Aside0.mk (blk_below HXA.out hb); have HB1 := Aside0.mk (below_step HBA.out hb);  clear hb)
    | (go_at_call 8; (with_reducible refine (HLL.out w1 HQ.out.1 HQ.out.2.1 HQ.out.2.2.2.2.2.1 HQ.out.2.2.2.2.2.2 HQ.out.2.2.1 HQ.out.2.2.2.1 (Kd.C_below HR2.out HB1.out) (Kd.C_below HR3.out HB1.out)).mono ?_); rintro e_ w2 ⟨n0, n1, B2, d2, B3, d3, rfl, hn0, hn1, hc2, hc3, hb⟩; rw [← HMM.out] at hn0; rw [← HNM.out] at hn1; subst hn0; subst hn1; have HX2 := Aside0.mk (blk_below HX1.out hb); have HB2 := Aside0.mk (below_step HB1.out hb); have S1 : Aside0 (w2.there w.heap.size 0 (#[.slice A0 m.length c0, .slice A1 nn.length c1, .slice B2 ops.length d2, .slice B3 more.length d3, .int .i64 o0, .int .i64 o1, .int .i64 o2, .int .i64 o3, .bool b, .int .i64 q1, .int .i64 q2, .slice A4 ps.length c4, .int .i64 kk, .int .i64 hh] : Array Value).size) := ⟨blk_there HX2.out (Nat.le_refl _)⟩; have S3 : Aside0 ((#[.slice A0 m.length c0, .slice A1 nn.length c1, .slice B2 ops.length d2, .slice B3 more.length d3, .int .i64 o0, .int .i64 o1, .int .i64 o2, .int .i64 o3, .bool b, .int .i64 q1, .int .i64 q2, .slice A4 ps.length c4, .int .i64 kk, .int .i64 hh] : Array Value).all (·.oneCell') = true) := ⟨by first | (simp [Value.oneCell']; done) | kernel_rfl⟩; clear hb hc2 hc3)
    | ((with_reducible refine gate_ (.load 29 (.tmp 1)) rfl ?_); (refine wpList_load_mid rfl 29 (.tmp 1) rfl w.heap.size 0 rfl [.slice A0 l0.length c0, .slice A1 l1.length c1, .slice A2 l2.length c2, .slice A3 l3.length c3, .int .i64 o0, .int .i64 o1, .int .i64 o2, .int .i64 o3, .bool b, .int .i64 q1, .int .i64 q2, .slice A4 ps.length c4, .int .i64 kk, .int .i64 hh] _ (blk_range HX1.out) Try.underlying29 rfl (by kernel_rfl) ?_))
    | ((with_reducible refine gate_ (.store 29 (.tmp 1) (.tmp 18)) rfl ?_); (refine wpList_store_mid rfl 29 (.tmp 1) (.tmp 18) rfl w.heap.size 0 #[.slice A0 m.length c0, .slice A1 nn.length c1, .slice B2 ops.length d2, .slice B3 more.length d3, .int .i64 o0, .int .i64 o1, .int .i64 o2, .int .i64 o3, .bool b, .int .i64 q1, .int .i64 q2, .slice A4 ps.length c4, .int .i64 kk, .int .i64 hh] rfl rfl S1.out (by kernel_rfl) S3.out ?_)))
  obtain ⟨W3, hW3⟩ : ∃ W3, W3 = w2.setCells w.heap.size 0 [.slice A0 m.length c0, .slice A1 nn.length c1, .slice B2 ops.length d2, .slice B3 more.length d3, .int .i64 o0, .int .i64 o1, .int .i64 o2, .int .i64 o3, .bool b, .int .i64 q1, .int .i64 q2, .slice A4 ps.length c4, .int .i64 kk, .int .i64 hh] := ⟨_, rfl⟩
  have HX : Aside0 (Bx w W3.drew (boxL A0 A1 B2 B3 A4 m.length nn.length ops.length more.length ps.length c0 c1 d2 d3 c4 o0 o1 o2 o3 b q1 q2 kk hh)) := ⟨Bx.drew ⟨by rw [hW3]; exact blk_fill HX2.out rfl, by rw [hW3]; exact fill_below HB2.out (Nat.le_refl _)⟩⟩
  rw [← hW3]
  simp only [Act.put]
  clear hW3 HB1 HB2 HX1 HX2 HXA HBA HWA HLL S1 S3
  go_region_held3 (fun W' => W'.cell? ⟨w.heap.size, 0, none⟩ = some (.slice A0 m.length c0) ∧ W'.cell? ⟨w.heap.size, 4, none⟩ = some (.int .i64 o0) ∧ W'.cell? ⟨w.heap.size, 5, none⟩ = some (.int .i64 o1) ∧ W'.cell? ⟨w.heap.size, 6, none⟩ = some (.int .i64 o2) ∧ W'.cell? ⟨w.heap.size, 7, none⟩ = some (.int .i64 o3)) (with_reducible exact box4 HX.out.box) (first
    | (go_at_call 10; (with_reducible refine (larchlaw06_copied.calls A0 c0 m m _ (Kd.C_below HRM.out HX.out.bel) HMC.out (copied_f m HF.out.small)).mono ?_); rintro e_ wN ⟨vu, rfl, ho, hb⟩; (first | (have hb_ := hb.below) | (have hb_ := hb)); have HXn := Aside0.mk (HX.out.below hb_); clear HX; have HX := HXn; clear HXn hb; obtain ⟨Au, cu, rfl⟩ := Kd.R_slice ho; have hl_ := (Kd.R_reads' ho).2.1; have UL := Aside0.mk hl_; have UC := Aside0.mk (Kd.R_reads' ho).2.2; clear hl_ ho; clear hb_)
    | (go_at_call 21; (with_reducible refine (model_Check.calls k Au cu m ck _ UC.out UL.out HF.out.chk).mono ?_); rintro e_ wN ⟨rfl, hb⟩; (first | (have hb_ := hb.below) | (have hb_ := hb)); have HXn := Aside0.mk (HX.out.below hb_); clear HX; have HX := HXn; clear HXn hb; clear hb_)
    | (go_at_call 30; (with_reducible refine (larchref06_Check.calls k A0 c0 m ck _ (Kd.C_below HRM.out HX.out.bel) HMC.out HF.out.rchk).mono ?_); rintro e_ wN ⟨rfl, hb⟩; (first | (have hb_ := hb.below) | (have hb_ := hb)); have HXn := Aside0.mk (HX.out.below hb_); clear HX; have HX := HXn; clear HXn hb; clear hb_)
    | (go_at_call 22; (with_reducible refine (model_Kind.calls o0 kd _ HF.out.kind).mono ?_); rintro e_ wN ⟨rfl, hb⟩; (first | (have hb_ := hb.below) | (have hb_ := hb)); have HXn := Aside0.mk (HX.out.below hb_); clear HX; have HX := HXn; clear HXn hb; clear hb_)
    | (go_at_call 31; (with_reducible refine (larchref06_Kind.calls o0 kd _ HF.out.rkind).mono ?_); rintro e_ wN ⟨rfl, hb⟩; (first | (have hb_ := hb.below) | (have hb_ := hb)); have HXn := Aside0.mk (HX.out.below hb_); clear HX; have HX := HXn; clear HXn hb; clear hb_)
    | (go_at_call 32; (with_reducible refine (model_Plain.calls k o0 o1 o2 o3 p0 p1 p2 p3 _ HF.out.plain).mono ?_); rintro e_ wN ⟨rfl, hb⟩; (first | (have hb_ := hb.below) | (have hb_ := hb)); have HXn := Aside0.mk (HX.out.below hb_); clear HX; have HX := HXn; clear HXn hb; clear hb_)
    | (go_at_call 33; (with_reducible refine (larchref06_Plain.calls k o0 o1 o2 o3 p0 p1 p2 p3 _ HF.out.rplain).mono ?_); rintro e_ wN ⟨rfl, hb⟩; (first | (have hb_ := hb.below) | (have hb_ := hb)); have HXn := Aside0.mk (HX.out.below hb_); clear HX; have HX := HXn; clear HXn hb; clear hb_)
    | (go_at_call 23; (with_reducible refine (model_Changes.calls o0 ch _ HF.out.chg).mono ?_); rintro e_ wN ⟨rfl, hb⟩; (first | (have hb_ := hb.below) | (have hb_ := hb)); have HXn := Aside0.mk (HX.out.below hb_); clear HX; have HX := HXn; clear HXn hb; clear hb_)
    | (go_at_call 34; (with_reducible refine (larchref06_Changes.calls o0 ch _ HF.out.rchg).mono ?_); rintro e_ wN ⟨rfl, hb⟩; (first | (have hb_ := hb.below) | (have hb_ := hb)); have HXn := Aside0.mk (HX.out.below hb_); clear HX; have HX := HXn; clear HXn hb; clear hb_)
    | (go_at_call 20; (with_reducible refine (model_Of.calls Au cu m fl _ UC.out UL.out HF.out.of_).mono ?_); rintro e_ wN ⟨vf, rfl, ho, hb⟩; (first | (have hb_ := hb.below) | (have hb_ := hb)); have HXn := Aside0.mk (HX.out.below hb_); clear HX; have HX := HXn; clear HXn hb; obtain ⟨Af, cf, rfl⟩ := Kd.R_slice ho; have FL := Aside0.mk (Kd.R_reads' ho).2.1; have FC := Aside0.mk (Kd.R_reads' ho).2.2; clear ho; clear hb_)
    | (go_at_call 26; (with_reducible refine (larchref06_Of.calls k A0 c0 m fl _ (Kd.C_below HRM.out HX.out.bel) HMC.out HF.out.rof).mono ?_); rintro e_ wN ⟨vg, rfl, ho, hb⟩; (first | (have hb_ := hb.below) | (have hb_ := hb)); have HXn := Aside0.mk (HX.out.below hb_); clear HX; have HX := HXn; clear HXn hb; have FCn := Aside0.mk (Kd.C_below FC.out hb_); clear FC; have FC := FCn; clear FCn; obtain ⟨Ag, cg, rfl⟩ := Kd.R_slice ho; have GL := Aside0.mk (Kd.R_reads' ho).2.1; have GC := Aside0.mk (Kd.R_reads' ho).2.2; clear ho; clear hb_)
    | (go_at_call 12; (with_reducible refine (larchref06_Same.calls k Af cf fl Ag cg fl true _ FC.out FL.out GC.out GL.out HF.out.sof).mono ?_); rintro e_ wN ⟨rfl, hb⟩; (first | (have hb_ := hb.below) | (have hb_ := hb)); have HXn := Aside0.mk (HX.out.below hb_); clear HX; have HX := HXn; clear HXn hb; clear hb_))
  go_wp2
  (try clear FC FL GC GL UC UL)
  have HXn := Aside0.mk HX.out.drew
  clear HX
  have HX := HXn
  clear HXn
  go_region_held3 (fun W' => W'.cell? ⟨w.heap.size, 0, none⟩ = some (.slice A0 m.length c0) ∧ W'.cell? ⟨w.heap.size, 1, none⟩ = some (.slice A1 nn.length c1) ∧ W'.cell? ⟨w.heap.size, 12, none⟩ = some (.int .i64 kk) ∧ W'.cell? ⟨w.heap.size, 13, none⟩ = some (.int .i64 hh)) (with_reducible exact boxk HX.out.box) (first
    | (go_at_call 10; (with_reducible refine (larchlaw06_copied.calls A0 c0 m m _ (Kd.C_below HRM.out HX.out.bel) HMC.out (copied_f m HF.out.small)).mono ?_); rintro e_ wN ⟨vu, rfl, ho, hb⟩; (first | (have hb_ := hb.below) | (have hb_ := hb)); have HXn := Aside0.mk (HX.out.below hb_); clear HX; have HX := HXn; clear HXn hb; obtain ⟨Au, cu, rfl⟩ := Kd.R_slice ho; have hl_ := (Kd.R_reads' ho).2.1; have UL := Aside0.mk hl_; have UC := Aside0.mk (Kd.R_reads' ho).2.2; clear hl_ ho; clear hb_)
    | (go_at_call 29; (with_reducible refine (model_Find.calls k Au cu m kk fi fb fe _ UC.out UL.out HF.out.find).mono ?_); rintro e_ wN ⟨rfl, hb⟩; (first | (have hb_ := hb.below) | (have hb_ := hb)); have HXn := Aside0.mk (HX.out.below hb_); clear HX; have HX := HXn; clear HXn hb; clear hb_))
  obtain ⟨x0, x1, x12, x13⟩ := boxk HX.out.box
  clear UC UL
  go_wp2_with ((go_at_call 35; (with_reducible refine (larchref06_Find.calls k A0 c0 m kk fi fb fe _ (Kd.C_below HRM.out HX.out.bel) HMC.out HF.out.rfind).mono ?_); rintro e_ wN ⟨rfl, hb⟩; (first | (have hb_ := hb.below) | (have hb_ := hb)); have HXn := Aside0.mk (HX.out.below hb_); clear HX; have HX := HXn; clear HXn hb; clear x0 x1 x12 x13; clear hb_))
  have HXn := Aside0.mk HX.out.drew
  clear HX
  have HX := HXn
  clear HXn
  go_region_held3 (fun W' => W'.cell? ⟨w.heap.size, 0, none⟩ = some (.slice A0 m.length c0) ∧ W'.cell? ⟨w.heap.size, 1, none⟩ = some (.slice A1 nn.length c1) ∧ W'.cell? ⟨w.heap.size, 12, none⟩ = some (.int .i64 kk) ∧ W'.cell? ⟨w.heap.size, 13, none⟩ = some (.int .i64 hh)) (with_reducible exact boxk HX.out.box) (first
    | (go_at_call 10; (with_reducible refine (larchlaw06_copied.calls A0 c0 m m _ (Kd.C_below HRM.out HX.out.bel) HMC.out (copied_f m HF.out.small)).mono ?_); rintro e_ wN ⟨vu, rfl, ho, hb⟩; (first | (have hb_ := hb.below) | (have hb_ := hb)); have HXn := Aside0.mk (HX.out.below hb_); clear HX; have HX := HXn; clear HXn hb; obtain ⟨Au, cu, rfl⟩ := Kd.R_slice ho; have hl_ := (Kd.R_reads' ho).2.1; have UL := Aside0.mk hl_; have UC := Aside0.mk (Kd.R_reads' ho).2.2; clear hl_ ho; clear hb_)
    | (go_at_call 27; (with_reducible refine (model_Part.calls k Au cu m kk hh pl pe _ UC.out UL.out HF.out.part).mono ?_); rintro e_ wN ⟨vp, rfl, ho, hb⟩; (first | (have hb_ := hb.below) | (have hb_ := hb)); have HXn := Aside0.mk (HX.out.below hb_); clear HX; have HX := HXn; clear HXn hb; obtain ⟨Ap, cp, rfl⟩ := Kd.R_slice ho; have PL := Aside0.mk (Kd.R_reads' ho).2.1; have PC := Aside0.mk (Kd.R_reads' ho).2.2; clear ho; clear hb_))
  obtain ⟨x0, x1, x12, x13⟩ := boxk HX.out.box
  clear UC UL
  go_wp2_with (first
    | (go_at_call 25; (with_reducible refine (larchref06_Part.calls k A0 c0 m kk hh pl pe _ (Kd.C_below HRM.out HX.out.bel) HMC.out HF.out.rpart).mono ?_); rintro e_ wN ⟨vq, rfl, ho, hb⟩; (first | (have hb_ := hb.below) | (have hb_ := hb)); have HXn := Aside0.mk (HX.out.below hb_); clear HX; have HX := HXn; clear HXn hb; have PCn := Aside0.mk (Kd.C_below PC.out hb_); clear PC; have PC := PCn; clear PCn; obtain ⟨Aq, cq, rfl⟩ := Kd.R_slice ho; have QL := Aside0.mk (Kd.R_reads' ho).2.1; have QC := Aside0.mk (Kd.R_reads' ho).2.2; clear ho x0 x1 x12 x13; clear hb_)
    | (go_at_call 12; (with_reducible refine (larchref06_Same.calls k Ap cp pl Aq cq pl true _ PC.out PL.out QC.out QL.out HF.out.spart).mono ?_); rintro e_ wN ⟨rfl, hb⟩; (first | (have hb_ := hb.below) | (have hb_ := hb)); have HXn := Aside0.mk (HX.out.below hb_); clear HX; have HX := HXn; clear HXn hb; clear hb_))
  clear PC PL QC QL
  have HXn := Aside0.mk HX.out.drew
  clear HX
  have HX := HXn
  clear HXn
  go_region_held3 (fun W' => W'.cell? ⟨w.heap.size, 0, none⟩ = some (.slice A0 m.length c0) ∧ W'.cell? ⟨w.heap.size, 1, none⟩ = some (.slice A1 nn.length c1) ∧ W'.cell? ⟨w.heap.size, 12, none⟩ = some (.int .i64 kk) ∧ W'.cell? ⟨w.heap.size, 13, none⟩ = some (.int .i64 hh)) (with_reducible exact boxk HX.out.box) (first
    | (go_at_call 10; (with_reducible refine (larchlaw06_copied.calls A0 c0 m m _ (Kd.C_below HRM.out HX.out.bel) HMC.out (copied_f m HF.out.small)).mono ?_); rintro e_ wN ⟨vu, rfl, ho, hb⟩; (first | (have hb_ := hb.below) | (have hb_ := hb)); have HXn := Aside0.mk (HX.out.below hb_); clear HX; have HX := HXn; clear HXn hb; obtain ⟨Au, cu, rfl⟩ := Kd.R_slice ho; have UR := Aside0.mk ho; clear ho; clear hb_)
    | (go_at_call 10; (with_reducible refine (larchlaw06_copied.calls A1 c1 nn nn _ (Kd.C_below HRN.out HX.out.bel) HNC.out (copied_f nn HF.out.smalln)).mono ?_); rintro e_ wN ⟨vt, rfl, ho, hb⟩; (first | (have hb_ := hb.below) | (have hb_ := hb)); have HXn := Aside0.mk (HX.out.below hb_); clear HX; have HX := HXn; clear HXn hb; obtain ⟨At, ct, rfl⟩ := Kd.R_slice ho; have TR := Aside0.mk ho; have UR2 := Aside0.mk (Kd.R_below UR.out hb_); clear ho; clear hb_)
    | (go_at_call 28; (with_reducible refine (model_Differ.calls (P0_ := fun _ => True) (P1_ := fun _ => True) (k := k) (A0 := Au) (c0 := cu) (l0 := m) (A1 := At) (c1 := ct) (l1 := nn) (r1 := dl) (r2 := de) (hs0 := Kd.R_V UR2.out) (hs1 := Kd.R_V TR.out) (h := HF.out.diff)).mono ?_); rintro e_ wN ⟨vd, rfl, ho, hb⟩; (first | (have hb_ := hb.below) | (have hb_ := hb)); have HXn := Aside0.mk (HX.out.below hb_); clear HX; have HX := HXn; clear HXn hb; obtain ⟨Ad, cd, rfl⟩ := Kd.R_slice ho; have DL := Aside0.mk (Kd.R_reads' ho).2.1; have DR := Aside0.mk (Kd.R_reads' ho).2.2; clear ho hb_))
  obtain ⟨x0, x1, x12, x13⟩ := boxk HX.out.box
  clear UR UR2 TR
  go_wp2_with ((go_at_call 36; (with_reducible refine (larchref06_Differ.calls k A0 c0 m A1 c1 nn dl de _ (Kd.C_below HRM.out HX.out.bel) HMC.out (Kd.C_below HRN.out HX.out.bel) HNC.out HF.out.rdiff).mono ?_); rintro e_ wN ⟨ve, rfl, ho, hb⟩; (first | (have hb_ := hb.below) | (have hb_ := hb)); have HXn := Aside0.mk (HX.out.below hb_); clear HX; have HX := HXn; clear HXn hb; have DRn := Aside0.mk (Kd.C_below DR.out hb_); clear DR; have DR := DRn; clear DRn; obtain ⟨Ae, ce, rfl⟩ := Kd.R_slice ho; have EL := Aside0.mk (Kd.R_reads' ho).2.1; have ER := Aside0.mk (Kd.R_reads' ho).2.2; clear ho x0 x1 x12 x13; clear hb_))
  have hdm : dl.length ≤ 9223372036854775807 := DR.out.2.1
  go_loopw [13] (fun v13 W => ∃ (j : Nat), v13 = .int .i64 (j : Int) ∧ j ≤ dl.length ∧ Aside0 (Bx w W (boxL A0 A1 B2 B3 A4 m.length nn.length ops.length more.length ps.length c0 c1 d2 d3 c4 o0 o1 o2 o3 b q1 q2 kk hh)) ∧ Aside0 (Kd.C (Kd.int .i64) W Ad dl.length dl) ∧ Aside0 (Kd.C (Kd.int .i64) W Ae dl.length dl)) (fun v13 _ => dl.length - (intOf v13).toNat)
  case atStart => exact ⟨0, rfl, Nat.zero_le _, HX, DR, ER⟩
  case round =>
    clear HX DR ER
    obtain ⟨j, rfl, hj, HX, DR, ER⟩ := hrel
    by_cases hlt : j < dl.length
    · obtain ⟨ad, ea, x0⟩ := Kd.at_int DR.out (j : Int) (by omega) (by omega)
      cases ea
      obtain ⟨ae, ea, y0⟩ := Kd.at_int ER.out (j : Int) (by omega) (by omega)
      cases ea
      simp only [Int.toNat_natCast] at x0 y0
      have b1 : (0 : Int) ≤ (j : Int) := by omega
      have b2 : (j : Int) < (dl.length : Int) := by omega
      go_wp2
      go_region_held3 (fun W' => W'.cell? (ad.add j) = some (.int .i64 (rd dl (j : Int))) ∧ W'.cell? (ae.add j) = some (.int .i64 (rd dl (j : Int)))) (exact ⟨x0, y0⟩) (fail)
      go_wp2
      go_roundw
      case rel => exact ⟨j + 1, by go_num, by omega, ⟨HX.out.drew⟩, ⟨Kd.C_below DR.out (below_drew1 (Below.refl _ _))⟩, ⟨Kd.C_below ER.out (below_drew1 (Below.refl _ _))⟩⟩
      case measure => simp [intOf]; omega
    · obtain rfl : j = dl.length := by omega
      clear hlt DR ER
      go_wp2
      have HXn := Aside0.mk HX.out.drew
      clear HX
      have HX := HXn
      clear HXn
      go_region_held3 (fun W' => W'.cell? ⟨w.heap.size, 1, none⟩ = some (.slice A1 nn.length c1) ∧ W'.cell? ⟨w.heap.size, 8, none⟩ = some (.bool b) ∧ W'.cell? ⟨w.heap.size, 9, none⟩ = some (.int .i64 q1) ∧ W'.cell? ⟨w.heap.size, 10, none⟩ = some (.int .i64 q2)) (first | (with_reducible exact boxq HX.out.box) | (with_reducible exact boxq (HX.out.alloc _).box) | (with_reducible exact boxq HX2.out.box) | (with_reducible exact boxq (HX2.out.alloc _).box) | exact boxq (blk_ret HX2.out.box N2.out) | exact boxq (HX.out.alloc _).box) (first
        | (go_at_call 10; (with_reducible refine (larchlaw06_copied.calls A1 c1 nn nn _ ?s1 HNC.out (copied_f nn HF.out.smalln)).mono ?_); (case s1 => first | exact Kd.C_below HRN.out HX.out.bel | exact Kd.C_below HRN.out (HX.out.alloc _).bel); rintro e_ wG ⟨vg, rfl, ho, hb⟩; obtain ⟨Ag, cg, rfl⟩ := Kd.R_slice ho; have HX2 : Aside0 (Bx w wG (boxL A0 A1 B2 B3 A4 m.length nn.length ops.length more.length ps.length c0 c1 d2 d3 c4 o0 o1 o2 o3 b q1 q2 kk hh)) := ⟨by first | exact HX.out.below hb | exact (HX.out.alloc _).below hb⟩; have G2 : Aside0 (Kd.R k51 51 wG w.heap.size (fun _ => True) (.slice Ag nn.length cg) nn) := ⟨Kd.R_lower ho (by first | exact HX.out.bel.size | exact (HX.out.alloc _).bel.size)⟩; (first | (have T2 : Aside0 (wG.heap[wr.heap.size]? = some (.cells #[.bool false, .int .i64 0, .int .i64 0, .slice none 0 0] 27 (0, 0))) := ⟨blk_below (blk_new wr.drew _) hb⟩; have N2 : Aside0 (w.heap.size ≠ wr.heap.size) := ⟨Nat.ne_of_lt (blk_lt HX.out.box)⟩; obtain ⟨t50, t51, t52, t53⟩ := ans4 (b := false) (x := 0) (y := 0) (v := .slice none 0 0) T2.out; obtain ⟨f50, f51, f52, f53⟩ := ans_froz T2.out) | (have T2 : Aside0 True := ⟨trivial⟩)); clear ho hb))
      · obtain ⟨W4, hW4⟩ : ∃ W4, W4 = wG.alloc (.cells #[.bool b, .int .i64 q1, .int .i64 q2, .slice Ag nn.length cg] 27) := ⟨_, rfl⟩
        have HX4 : Aside0 (Bx w W4.drew (boxL A0 A1 B2 B3 A4 m.length nn.length ops.length more.length ps.length c0 c1 d2 d3 c4 o0 o1 o2 o3 b q1 q2 kk hh)) := ⟨by rw [hW4]; exact (HX2.out.alloc _).drew⟩
        have TX : Aside0 (Tx w W4.drew wG.heap.size b q1 q2 Ag cg nn) := ⟨by rw [hW4]; exact ⟨blk_new _ _, Kd.R_drew (Kd.R_alloc G2.out _)⟩⟩
        rw [← hW4]
        generalize wG.heap.size = g14 at TX ⊢
        clear hW4 HX HX2 G2 T2
        have HX := HX4
        clear HX4
        go_wp2
        go_region_held3 (fun W' => W'.cell? ⟨w.heap.size, 0, none⟩ = some (.slice A0 m.length c0) ∧ W'.cell? ⟨w.heap.size, 1, none⟩ = some (.slice A1 nn.length c1) ∧ W'.cell? ⟨w.heap.size, 8, none⟩ = some (.bool b) ∧ W'.cell? ⟨w.heap.size, 9, none⟩ = some (.int .i64 q1) ∧ W'.cell? ⟨w.heap.size, 10, none⟩ = some (.int .i64 q2) ∧ W'.cell? ⟨w.heap.size, 11, none⟩ = some (.slice A4 ps.length c4) ∧ W'.cell? ⟨g14, 0, none⟩ = some (.bool b) ∧ W'.cell? ⟨g14, 1, none⟩ = some (.int .i64 q1) ∧ W'.cell? ⟨g14, 2, none⟩ = some (.int .i64 q2) ∧ W'.cell? ⟨g14, 3, none⟩ = some (.slice Ag nn.length cg)) (with_reducible exact listcells HX.out.box TX.out) (first
          | (go_at_call 10; (with_reducible refine (larchlaw06_copied.calls A0 c0 m m _ (Kd.C_below HRM.out HX.out.bel) HMC.out (copied_f m HF.out.small)).mono ?_); rintro e_ wN ⟨vu, rfl, ho, hb⟩; (first | (have hb_ := hb.below) | (have hb_ := hb)); have HXn := Aside0.mk (HX.out.below hb_); clear HX; have HX := HXn; clear HXn hb; obtain ⟨Au, cu, rfl⟩ := Kd.R_slice ho; have hl_ := (Kd.R_reads' ho).2.1; have UL := Aside0.mk hl_; have UC := Aside0.mk (Kd.R_reads' ho).2.2; clear hl_ ho; have TXn := Aside0.mk (TX.out.below hb_); clear TX; have TX := TXn; clear TXn; clear hb_)
          | (go_at_call 10; (with_reducible refine (larchlaw06_copied.calls A1 c1 nn nn _ (Kd.C_below HRN.out HX.out.bel) HNC.out (copied_f nn HF.out.smalln)).mono ?_); rintro e_ wN ⟨vt, rfl, ho, hb⟩; (first | (have hb_ := hb.below) | (have hb_ := hb)); have HXn := Aside0.mk (HX.out.below hb_); clear HX; have HX := HXn; clear HXn hb; have UCn := Aside0.mk (Kd.C_below UC.out hb_); clear UC; have UC := UCn; clear UCn; obtain ⟨At, ct, rfl⟩ := Kd.R_slice ho; have TL := Aside0.mk (Kd.R_reads' ho).2.1; have TC := Aside0.mk (Kd.R_reads' ho).2.2; clear ho; have TXn := Aside0.mk (TX.out.below hb_); clear TX; have TX := TXn; clear TXn; clear hb_)
          | (go_at_call 37; (with_reducible refine (model_Same.calls k Au cu m At ct nn sm _ UC.out UL.out TC.out TL.out HF.out.same).mono ?_); rintro e_ wN ⟨rfl, hb⟩; (first | (have hb_ := hb.below) | (have hb_ := hb)); have HXn := Aside0.mk (HX.out.below hb_); clear HX; have HX := HXn; clear HXn hb; have TXn := Aside0.mk (TX.out.below hb_); clear TX; have TX := TXn; clear TXn; clear hb_)
          | (go_at_call 12; (with_reducible refine (larchref06_Same.calls k A0 c0 m A1 c1 nn sm _ (Kd.C_below HRM.out HX.out.bel) HMC.out (Kd.C_below HRN.out HX.out.bel) HNC.out HF.out.rsame).mono ?_); rintro e_ wN ⟨rfl, hb⟩; (first | (have hb_ := hb.below) | (have hb_ := hb)); have HXn := Aside0.mk (HX.out.below hb_); clear HX; have HX := HXn; clear HXn hb; have TXn := Aside0.mk (TX.out.below hb_); clear TX; have TX := TXn; clear TXn; clear hb_)
          | (go_at_call 38; (with_reducible refine (model_SameRet.calls k b q1 q2 A4 c4 ps b q1 q2 Ag cg nn sr _ (Kd.C_below HR4.out HX.out.bel) HQ.out.2.2.2.2.1 (Kd.R_reads' TX.out.gp).2.2 (Kd.R_reads' TX.out.gp).2.1 HF.out.sret).mono ?_); rintro e_ wN ⟨rfl, hb⟩; (first | (have hb_ := hb.below) | (have hb_ := hb)); have HXn := Aside0.mk (HX.out.below hb_); clear HX; have HX := HXn; clear HXn hb; have TXn := Aside0.mk (TX.out.below hb_); clear TX; have TX := TXn; clear TXn; clear hb_)
          | (go_at_call 13; (with_reducible refine (larchref06_SameRet.calls k b q1 q2 A4 c4 ps b q1 q2 Ag cg nn sr _ (Kd.C_below HR4.out HX.out.bel) HQ.out.2.2.2.2.1 (Kd.R_reads' TX.out.gp).2.2 (Kd.R_reads' TX.out.gp).2.1 HF.out.rsret).mono ?_); rintro e_ wN ⟨rfl, hb⟩; (first | (have hb_ := hb.below) | (have hb_ := hb)); have HXn := Aside0.mk (HX.out.below hb_); clear HX; have HX := HXn; clear HXn hb; have TXn := Aside0.mk (TX.out.below hb_); clear TX; have TX := TXn; clear TXn; clear hb_)
          | (go_at_call 37; (with_reducible refine (model_Same.calls k Au cu m A0 c0 m true _ UC.out UL.out (Kd.C_below HRM.out HX.out.bel) HMC.out HF.out.same2).mono ?_); rintro e_ wN ⟨rfl, hb⟩; (first | (have hb_ := hb.below) | (have hb_ := hb)); have HXn := Aside0.mk (HX.out.below hb_); clear HX; have HX := HXn; clear HXn hb; have TXn := Aside0.mk (TX.out.below hb_); clear TX; have TX := TXn; clear TXn; clear hb_)
          | (go_at_call 38; (with_reducible refine (model_SameRet.calls k b q1 q2 Ag cg nn b q1 q2 Ag cg nn true _ (Kd.R_reads' TX.out.gp).2.2 (Kd.R_reads' TX.out.gp).2.1 (Kd.R_reads' TX.out.gp).2.2 (Kd.R_reads' TX.out.gp).2.1 HF.out.sret2).mono ?_); rintro e_ wN ⟨rfl, hb⟩; (first | (have hb_ := hb.below) | (have hb_ := hb)); have HXn := Aside0.mk (HX.out.below hb_); clear HX; have HX := HXn; clear HXn hb; have TXn := Aside0.mk (TX.out.below hb_); clear TX; have TX := TXn; clear TXn; clear hb_))
        go_wp2
        go_ret
        exact ⟨rfl, HX.out.bel⟩
      · obtain ⟨W4, hW4⟩ : ∃ W4, W4 = retW wG wr.heap.size b q1 q2 (.slice Ag nn.length cg) := ⟨_, rfl⟩
        have HX4 : Aside0 (Bx w W4.drew (boxL A0 A1 B2 B3 A4 m.length nn.length ops.length more.length ps.length c0 c1 d2 d3 c4 o0 o1 o2 o3 b q1 q2 kk hh)) := ⟨by rw [hW4]; exact Bx.drew ⟨blk_ret HX2.out.box N2.out, below_ret0 HX2.out.bel HX.out.bel.size⟩⟩
        have TX : Aside0 (Tx w W4.drew wr.heap.size b q1 q2 Ag cg nn) := ⟨by rw [hW4]; exact ⟨ret_rt T2.out b q1 q2 _, Kd.R_drew (ret_R T2.out b q1 q2 _ G2.out)⟩⟩
        unfold retW at hW4
        rw [← hW4]
        generalize wr.heap.size = g14 at TX ⊢
        clear hW4 HX HX2 G2 T2 N2 t50 t51 t52 t53 f50 f51 f52 f53
        have HX := HX4
        clear HX4
        go_wp2
        go_region_held3 (fun W' => W'.cell? ⟨w.heap.size, 0, none⟩ = some (.slice A0 m.length c0) ∧ W'.cell? ⟨w.heap.size, 1, none⟩ = some (.slice A1 nn.length c1) ∧ W'.cell? ⟨w.heap.size, 8, none⟩ = some (.bool b) ∧ W'.cell? ⟨w.heap.size, 9, none⟩ = some (.int .i64 q1) ∧ W'.cell? ⟨w.heap.size, 10, none⟩ = some (.int .i64 q2) ∧ W'.cell? ⟨w.heap.size, 11, none⟩ = some (.slice A4 ps.length c4) ∧ W'.cell? ⟨g14, 0, none⟩ = some (.bool b) ∧ W'.cell? ⟨g14, 1, none⟩ = some (.int .i64 q1) ∧ W'.cell? ⟨g14, 2, none⟩ = some (.int .i64 q2) ∧ W'.cell? ⟨g14, 3, none⟩ = some (.slice Ag nn.length cg)) (with_reducible exact listcells HX.out.box TX.out) (first
          | (go_at_call 10; (with_reducible refine (larchlaw06_copied.calls A0 c0 m m _ (Kd.C_below HRM.out HX.out.bel) HMC.out (copied_f m HF.out.small)).mono ?_); rintro e_ wN ⟨vu, rfl, ho, hb⟩; (first | (have hb_ := hb.below) | (have hb_ := hb)); have HXn := Aside0.mk (HX.out.below hb_); clear HX; have HX := HXn; clear HXn hb; obtain ⟨Au, cu, rfl⟩ := Kd.R_slice ho; have hl_ := (Kd.R_reads' ho).2.1; have UL := Aside0.mk hl_; have UC := Aside0.mk (Kd.R_reads' ho).2.2; clear hl_ ho; have TXn := Aside0.mk (TX.out.below hb_); clear TX; have TX := TXn; clear TXn; clear hb_)
          | (go_at_call 10; (with_reducible refine (larchlaw06_copied.calls A1 c1 nn nn _ (Kd.C_below HRN.out HX.out.bel) HNC.out (copied_f nn HF.out.smalln)).mono ?_); rintro e_ wN ⟨vt, rfl, ho, hb⟩; (first | (have hb_ := hb.below) | (have hb_ := hb)); have HXn := Aside0.mk (HX.out.below hb_); clear HX; have HX := HXn; clear HXn hb; have UCn := Aside0.mk (Kd.C_below UC.out hb_); clear UC; have UC := UCn; clear UCn; obtain ⟨At, ct, rfl⟩ := Kd.R_slice ho; have TL := Aside0.mk (Kd.R_reads' ho).2.1; have TC := Aside0.mk (Kd.R_reads' ho).2.2; clear ho; have TXn := Aside0.mk (TX.out.below hb_); clear TX; have TX := TXn; clear TXn; clear hb_)
          | (go_at_call 37; (with_reducible refine (model_Same.calls k Au cu m At ct nn sm _ UC.out UL.out TC.out TL.out HF.out.same).mono ?_); rintro e_ wN ⟨rfl, hb⟩; (first | (have hb_ := hb.below) | (have hb_ := hb)); have HXn := Aside0.mk (HX.out.below hb_); clear HX; have HX := HXn; clear HXn hb; have TXn := Aside0.mk (TX.out.below hb_); clear TX; have TX := TXn; clear TXn; clear hb_)
          | (go_at_call 12; (with_reducible refine (larchref06_Same.calls k A0 c0 m A1 c1 nn sm _ (Kd.C_below HRM.out HX.out.bel) HMC.out (Kd.C_below HRN.out HX.out.bel) HNC.out HF.out.rsame).mono ?_); rintro e_ wN ⟨rfl, hb⟩; (first | (have hb_ := hb.below) | (have hb_ := hb)); have HXn := Aside0.mk (HX.out.below hb_); clear HX; have HX := HXn; clear HXn hb; have TXn := Aside0.mk (TX.out.below hb_); clear TX; have TX := TXn; clear TXn; clear hb_)
          | (go_at_call 38; (with_reducible refine (model_SameRet.calls k b q1 q2 A4 c4 ps b q1 q2 Ag cg nn sr _ (Kd.C_below HR4.out HX.out.bel) HQ.out.2.2.2.2.1 (Kd.R_reads' TX.out.gp).2.2 (Kd.R_reads' TX.out.gp).2.1 HF.out.sret).mono ?_); rintro e_ wN ⟨rfl, hb⟩; (first | (have hb_ := hb.below) | (have hb_ := hb)); have HXn := Aside0.mk (HX.out.below hb_); clear HX; have HX := HXn; clear HXn hb; have TXn := Aside0.mk (TX.out.below hb_); clear TX; have TX := TXn; clear TXn; clear hb_)
          | (go_at_call 13; (with_reducible refine (larchref06_SameRet.calls k b q1 q2 A4 c4 ps b q1 q2 Ag cg nn sr _ (Kd.C_below HR4.out HX.out.bel) HQ.out.2.2.2.2.1 (Kd.R_reads' TX.out.gp).2.2 (Kd.R_reads' TX.out.gp).2.1 HF.out.rsret).mono ?_); rintro e_ wN ⟨rfl, hb⟩; (first | (have hb_ := hb.below) | (have hb_ := hb)); have HXn := Aside0.mk (HX.out.below hb_); clear HX; have HX := HXn; clear HXn hb; have TXn := Aside0.mk (TX.out.below hb_); clear TX; have TX := TXn; clear TXn; clear hb_)
          | (go_at_call 37; (with_reducible refine (model_Same.calls k Au cu m A0 c0 m true _ UC.out UL.out (Kd.C_below HRM.out HX.out.bel) HMC.out HF.out.same2).mono ?_); rintro e_ wN ⟨rfl, hb⟩; (first | (have hb_ := hb.below) | (have hb_ := hb)); have HXn := Aside0.mk (HX.out.below hb_); clear HX; have HX := HXn; clear HXn hb; have TXn := Aside0.mk (TX.out.below hb_); clear TX; have TX := TXn; clear TXn; clear hb_)
          | (go_at_call 38; (with_reducible refine (model_SameRet.calls k b q1 q2 Ag cg nn b q1 q2 Ag cg nn true _ (Kd.R_reads' TX.out.gp).2.2 (Kd.R_reads' TX.out.gp).2.1 (Kd.R_reads' TX.out.gp).2.2 (Kd.R_reads' TX.out.gp).2.1 HF.out.sret2).mono ?_); rintro e_ wN ⟨rfl, hb⟩; (first | (have hb_ := hb.below) | (have hb_ := hb)); have HXn := Aside0.mk (HX.out.below hb_); clear HX; have HX := HXn; clear HXn hb; have TXn := Aside0.mk (TX.out.below hb_); clear TX; have TX := TXn; clear TXn; clear hb_))
        go_wp2
        go_ret
        exact ⟨rfl, HX.out.bel⟩
end Go.Proofs.Ytanlnfcjdjamaaa.P
