/- P.modelLaws_holds, part 33 of 35: the contracts of the Go functions that the law calls, its own walk, and its plain law, for every input that the statement speaks of. -/
import Derived.Test.YtanlnfcjdjamaaaMLa31
set_option linter.unusedVariables false
set_option linter.unusedSimpArgs false
/- E21 -/
namespace Go.Proofs.Ytanlnfcjdjamaaa.P
open Go.RowKit Go.Proofs.YtanlnfcjdjamaaaW.PrintWords Go.Proofs.YtanlnfcjdjamaaaW.PrintLast Go.Proofs.YtanlnfcjdjamaaaW.PrintMore
structure LawsB (k : Nat) (m : List S51) (o0 : Int) (fl : List S51) (kd : Int) : Prop where
  fixed : larchlaw06_fixed.f k = some true
  small : m.length < 100000000
  of_ : model_Of.f m = some fl
  small_fl : fl.length < 100000000
  chk : model_Check.f k fl = some 0
  kind : model_Kind.f o0 = some kd
  ne : kd ≠ 0
set_option maxHeartbeats 100000000 in
set_option maxRecDepth 100000 in
theorem larchlaw06_ModelLaws_none (k : Nat) (A0 A1 A2 A3 A4 : Option Addr) (c0 c1 c2 c3 c4 : Nat) (l0 l1 : List S51) (l2 l3 : List S25) (o0 o1 o2 o3 : Int) (b : Bool) (q1 q2 : Int) (ps : List S51) (kk hh : Int) (fl : List S51) (kd : Int) (w : World)
    (h0 : l0.length ≤ c0) (hr0 : Kd.C k51 w A0 l0.length l0) (h1 : l1.length ≤ c1) (hr1 : Kd.C k51 w A1 l1.length l1) (h2 : l2.length ≤ c2) (hr2 : Kd.C k25 w A2 l2.length l2) (h3 : l3.length ≤ c3) (hr3 : Kd.C k25 w A3 l3.length l3) (h4 : ps.length ≤ c4) (hr4 : Kd.C k51 w A4 ps.length ps)
    (h : LawsB k (l0.take 300) o0 fl kd) :
    Calls Try.prog 4 #[.agg #[.slice A0 l0.length c0, .slice A1 l1.length c1, .slice A2 l2.length c2, .slice A3 l3.length c3, .int .i64 o0, .int .i64 o1, .int .i64 o2, .int .i64 o3, .bool b, .int .i64 q1, .int .i64 q2, .slice A4 ps.length c4, .int .i64 kk, .int .i64 hh]] w fun e w' => e = .returned (.bool true) ∧ Below w.heap.size w w' := by
  have hu25 := Try.underlying25
  have hu27 := Try.underlying27
  have hu51 := Try.underlying51
  have hu29 := Try.underlying29
  have hl0 : l0.length ≤ 9223372036854775807 := hr0.2.1
  have hl1 : l1.length ≤ 9223372036854775807 := hr1.2.1
  obtain ⟨m, hm⟩ : ∃ m, m = l0.take 300 := ⟨_, rfl⟩
  obtain ⟨ops, hops⟩ : ∃ ops, ops = l2.take 300 := ⟨_, rfl⟩
  obtain ⟨more, hmore⟩ : ∃ more, more = l3.take 300 := ⟨_, rfl⟩
  have hmm : m.length = min l0.length 300 := by rw [hm, List.length_take, Nat.min_comm]
  have hrm : Kd.C k51 w A0 m.length m := by rw [hm]; exact take_C hr0 300
  have hmc : m.length ≤ c0 := by rw [hmm]; omega
  rw [← hm] at h
  have hop : larchlaw06_few.f ops = some ops := by rw [few_f, List.take_of_length_le (by rw [hops, List.length_take]; omega)]
  have hmo : larchlaw06_few.f more = some more := by rw [few_f, List.take_of_length_le (by rw [hmore, List.length_take]; omega)]
  have HFW := Aside0.mk (And.intro hop hmo)
  have HF := Aside0.mk h
  have HL := less_calls A0 A1 A2 A3 c0 c1 c2 c3 l0 l1 l2 l3 o0 o1 o2 o3 b q1 q2 A4 ps.length c4 kk hh
  rw [← hops, ← hmore] at HL
  have HMM := Aside0.mk hmm
  have HMC := Aside0.mk hmc
  have HRM := Aside0.mk hrm
  have HR2 := Aside0.mk hr2
  have HR3 := Aside0.mk hr3
  have HLL := Aside0.mk HL
  have HQ := Aside0.mk (And.intro h0 (And.intro h1 (And.intro h2 (And.intro h3 (And.intro h4 (And.intro hl0 hl1))))))
  have HLEN : Aside0 (ops.length ≤ 300 ∧ more.length ≤ 300) := ⟨by rw [hops, List.length_take]; omega, by rw [hmore, List.length_take]; omega⟩
  clear h hm hmm hmc hrm hr0 hr1 hr2 hr3 hr4 HL h0 h1 h2 h3 h4 hl0 hl1 hops hmore hop hmo
  obtain ⟨Wa, hWa⟩ : ∃ Wa, Wa = w.alloc (.cells #[.slice A0 l0.length c0, .slice A1 l1.length c1, .slice A2 l2.length c2, .slice A3 l3.length c3, .int .i64 o0, .int .i64 o1, .int .i64 o2, .int .i64 o3, .bool b, .int .i64 q1, .int .i64 q2, .slice A4 ps.length c4, .int .i64 kk, .int .i64 hh] 29) := ⟨_, rfl⟩
  have hBa : Below w.heap.size w Wa := by rw [hWa]; exact below_alloc (Below.refl _ _) _
  have hXa : Wa.heap[w.heap.size]? = some (.cells #[.slice A0 l0.length c0, .slice A1 l1.length c1, .slice A2 l2.length c2, .slice A3 l3.length c3, .int .i64 o0, .int .i64 o1, .int .i64 o2, .int .i64 o3, .bool b, .int .i64 q1, .int .i64 q2, .slice A4 ps.length c4, .int .i64 kk, .int .i64 hh] 29 (0, 0)) := by rw [hWa]; exact blk_new w _
  have HWA := Aside0.mk hWa
  have HBA := Aside0.mk hBa
  have HXA := Aside0.mk hXa
  clear hWa hBa hXa
  have hkb : ((kd : Int) == 0) = false := by have := HF.out.ne; simp [this]
  go_enter Try.func4, Try.ntmps4
  go_wp2_with (first
    | (go_at_call 7; rw [← HWA.out]; (with_reducible refine (larchlaw06_fixed.calls k true Wa HF.out.fixed).mono ?_); rintro e_ w1 ⟨rfl, hb⟩; have HX1 := Aside0.mk (blk_below HXA.out hb); have HB1 := Aside0.mk (below_step HBA.out hb);  clear hb)
    | (go_at_call 8; (with_reducible refine (HLL.out w1 HQ.out.1 HQ.out.2.1 HQ.out.2.2.2.2.2.1 HQ.out.2.2.2.2.2.2 HQ.out.2.2.1 HQ.out.2.2.2.1 (Kd.C_below HR2.out HB1.out) (Kd.C_below HR3.out HB1.out)).mono ?_); rintro e_ w2 ⟨n0, n1, B2, d2, B3, d3, rfl, hn0, hn1, hc2, hc3, hb⟩; rw [← HMM.out] at hn0; subst hn0; have HX2 := Aside0.mk (blk_below HX1.out hb); have HB2 := Aside0.mk (below_step HB1.out hb); have HO2 := Aside0.mk (Kd.R_types hc2 HX2.out (by decide)); have HO3 := Aside0.mk (Kd.R_types hc3 HX2.out (by decide)); have S1 : Aside0 (w2.there w.heap.size 0 (#[.slice A0 m.length c0, .slice A1 n1 c1, .slice B2 ops.length d2, .slice B3 more.length d3, .int .i64 o0, .int .i64 o1, .int .i64 o2, .int .i64 o3, .bool b, .int .i64 q1, .int .i64 q2, .slice A4 ps.length c4, .int .i64 kk, .int .i64 hh] : Array Value).size) := ⟨blk_there HX2.out (Nat.le_refl _)⟩; have S3 : Aside0 ((#[.slice A0 m.length c0, .slice A1 n1 c1, .slice B2 ops.length d2, .slice B3 more.length d3, .int .i64 o0, .int .i64 o1, .int .i64 o2, .int .i64 o3, .bool b, .int .i64 q1, .int .i64 q2, .slice A4 ps.length c4, .int .i64 kk, .int .i64 hh] : Array Value).all (·.oneCell') = true) := ⟨by first | (simp [Value.oneCell']; done) | kernel_rfl⟩; clear hb hn1 hc2 hc3)
    | ((with_reducible refine gate_ (.load 29 (.tmp 1)) rfl ?_); (refine wpList_load_mid rfl 29 (.tmp 1) rfl w.heap.size 0 rfl [.slice A0 l0.length c0, .slice A1 l1.length c1, .slice A2 l2.length c2, .slice A3 l3.length c3, .int .i64 o0, .int .i64 o1, .int .i64 o2, .int .i64 o3, .bool b, .int .i64 q1, .int .i64 q2, .slice A4 ps.length c4, .int .i64 kk, .int .i64 hh] _ (blk_range HX1.out) Try.underlying29 rfl (by kernel_rfl) ?_))
    | ((with_reducible refine gate_ (.store 29 (.tmp 1) (.tmp 51)) rfl ?_); (refine wpList_store_mid rfl 29 (.tmp 1) (.tmp 51) rfl w.heap.size 0 #[.slice A0 m.length c0, .slice A1 n1 c1, .slice B2 ops.length d2, .slice B3 more.length d3, .int .i64 o0, .int .i64 o1, .int .i64 o2, .int .i64 o3, .bool b, .int .i64 q1, .int .i64 q2, .slice A4 ps.length c4, .int .i64 kk, .int .i64 hh] rfl rfl S1.out (by kernel_rfl) S3.out ?_); obtain ⟨W3, hW3⟩ : ∃ W3, W3 = w2.setCells w.heap.size 0 [.slice A0 m.length c0, .slice A1 n1 c1, .slice B2 ops.length d2, .slice B3 more.length d3, .int .i64 o0, .int .i64 o1, .int .i64 o2, .int .i64 o3, .bool b, .int .i64 q1, .int .i64 q2, .slice A4 ps.length c4, .int .i64 kk, .int .i64 hh] := ⟨_, rfl⟩; have C3 : Aside0 (Cy w W3 (boxL A0 A1 B2 B3 A4 m.length n1 ops.length more.length ps.length c0 c1 d2 d3 c4 o0 o1 o2 o3 b q1 q2 kk hh) [] []) := ⟨⟨by rw [hW3]; exact blk_fill HX2.out rfl, by rw [hW3]; exact fill_below HB2.out (Nat.le_refl _), fun r hr => by simp at hr, fun r hr => by simp at hr⟩⟩; have P3 : Aside0 (Kd.R k25 25 W3 w.heap.size (fun _ => True) (.slice B2 ops.length d2) ops) := ⟨by rw [hW3]; exact Kd.R_lower (Kd.R_mono (Kd.R_step HO2.out (fun k ho _ => setCells_far _ 0 k ho.2)) (fun _ _ => trivial)) HB1.out.size⟩; have M3 : Aside0 (Kd.R k25 25 W3 w.heap.size (fun _ => True) (.slice B3 more.length d3) more) := ⟨by rw [hW3]; exact Kd.R_lower (Kd.R_mono (Kd.R_step HO3.out (fun k ho _ => setCells_far _ 0 k ho.2)) (fun _ _ => trivial)) HB1.out.size⟩; rw [← hW3]; obtain ⟨x0, x2, x3, x4, x5, x6, x7, x12, x13⟩ := boxk4 C3.out.box; clear hW3 HB1 HB2 HX1 HX2 HXA HBA HWA HLL HO2 HO3 S1 S3)
    | (go_at_call 10; (with_reducible refine (larchlaw06_copied.calls A0 c0 m m W3 (Kd.C_below HRM.out C3.out.bel) HMC.out (copied_f m HF.out.small)).mono ?_); rintro e_ w4 ⟨v4, rfl, ho, hb⟩; obtain ⟨Au, cu, rfl⟩ := Kd.R_slice ho; have C4 := Aside0.mk (C3.out.below hb); have P4 := Aside0.mk (Kd.R_below P3.out hb); have M4 := Aside0.mk (Kd.R_below M3.out hb); have U4 := Aside0.mk (Kd.R_reads' ho); clear ho hb x0 x2 x3 x4 x5 x6 x7 x12 x13)
    | (go_at_call 20; (with_reducible refine (model_Of.calls Au cu m fl w4 U4.out.2.2 U4.out.2.1 HF.out.of_).mono ?_); rintro e_ w5 ⟨v5, rfl, ho, hb⟩; obtain ⟨Af, cf, rfl⟩ := Kd.R_slice ho; have C5 := Aside0.mk ((C4.out.below hb).row (Kd.R_mono (Kd.R_lower ho C4.out.bel.size) (fun _ _ => trivial))); have P5 := Aside0.mk (Kd.R_below P4.out hb); have M5 := Aside0.mk (Kd.R_below M4.out hb); clear ho hb)
    | (go_at_call 10; (with_reducible refine (larchlaw06_copied.calls Af cf fl fl w5 (C5.out.rowC (A := Af) (c := cf) (l := fl) (by simp)).1 (C5.out.rowC (A := Af) (c := cf) (l := fl) (by simp)).2 (copied_f fl HF.out.small_fl)).mono ?_); rintro e_ w6 ⟨v6, rfl, ho, hb⟩; obtain ⟨Av, cv, rfl⟩ := Kd.R_slice ho; have C6 := Aside0.mk (C5.out.below hb); have P6 := Aside0.mk (Kd.R_below P5.out hb); have M6 := Aside0.mk (Kd.R_below M5.out hb); have U6 := Aside0.mk (Kd.R_reads' ho); clear ho hb)
    | (go_at_call 21; (with_reducible refine (model_Check.calls k Av cv fl 0 w6 U6.out.2.2 U6.out.2.1 HF.out.chk).mono ?_); rintro e_ w7 ⟨rfl, hd⟩; have C7 := Aside0.mk (C6.out.below hd.below); have P7 := Aside0.mk (Kd.R_below P6.out hd.below); have M7 := Aside0.mk (Kd.R_below M6.out hd.below); obtain ⟨x0, x2, x3, x4, x5, x6, x7, x12, x13⟩ := boxk4 C7.out.box; clear hd)
    | (go_at_call 22; (with_reducible refine (model_Kind.calls o0 kd w7 HF.out.kind).mono ?_); rintro e_ w8 ⟨rfl, hd⟩; have C8 := Aside0.mk (C7.out.below hd.below); have P8 := Aside0.mk (Kd.R_below P7.out hd.below); have M8 := Aside0.mk (Kd.R_below M7.out hd.below); clear hd x0 x2 x3 x4 x5 x6 x7 x12 x13)
    | (go_at_call 21; (with_reducible refine (model_Check.calls k Af cf fl 0 w8 (C8.out.rowC (A := Af) (c := cf) (l := fl) (by simp)).1 (C8.out.rowC (A := Af) (c := cf) (l := fl) (by simp)).2 HF.out.chk).mono ?_); rintro e_ w9 ⟨rfl, hd⟩; have C9 := Aside0.mk (C8.out.below hd.below); clear hd))
  go_ret
  exact ⟨rfl, C9.out.bel⟩
end Go.Proofs.Ytanlnfcjdjamaaa.P
