/- P.eventCalls_holds, part 16 of 31: the contracts of the Go functions that the law calls, its own walk, and its plain law, for every input that the statement speaks of. -/
import Derived.Test.YtagdkmcgepidoaaMCa14
import Derived.Test.YtagdkmcgepidoaaMCa2
set_option linter.unusedVariables false
set_option linter.unusedSimpArgs false
/- R1 -/
namespace Go.Proofs.Ytagdkmcgepidoaa.P
open Go.ChangeShapes Go.WideShapes Go.ChangeAt Go.RowKit Go.Deep Go.Joins Go.Proofs.YtagdkmcgepidoaaW.PrintWords Go.Proofs.YtagdkmcgepidoaaW.PrintLast Go.Proofs.YtagdkmcgepidoaaW.PrintMore
section
variable {H : Type} {enc : TypeId × Value → H} {w : World} {base : Nat} {spare : Nat → Bool} {held : Bool}
set_option maxRecDepth 100000 in
theorem seen_call {fuel : Nat} {cs : List Value} {y : DataW H × List MemPlace} (h : DataW.trod enc Try.prog w base spare held fuel 76 cs = some y) : ∃ (p : S76) (A : Option Addr) (c : Nat), cs = [.int .i64 p.f0, .int .i64 p.f1.f0, .int .i64 p.f1.f1, .int .i64 p.f1.f2, .int .i64 p.f1.f3, .bool p.f2.f0, .int .i64 p.f2.f1, .int .i64 p.f2.f2, .slice A p.f2.f3.length c, .int .i64 p.f3, .int .i64 p.f4] ∧ p.f2.f3.length ≤ c ∧ Kd.C k70 w A p.f2.f3.length p.f2.f3 ∧ p.f2.f3.length ≤ Rows.uptoBulk y.1 := by
  obtain ⟨xs, n, -, rfl, hl, hlen, hf⟩ := DataW.trod_struct Try.underlying76 h
  rw [show Try.prog.cellsOf 76 = 11 by kernel_rfl] at hl
  match cs, hl with
  | [c0, c1, c2, c3, c4, c5, c6, c7, c8, c9, c10], _ =>
  match xs, hlen with
  | [x0, x1, x2, x3, x4], _ =>
  have g0 := hf 0 _ rfl
  have g1 := hf 1 _ rfl
  have g2 := hf 2 _ rfl
  have g3 := hf 3 _ rfl
  have g4 := hf 4 _ rfl
  simp only [show Try.prog.cellsOf 3 = 1 by kernel_rfl, show Try.prog.cellsOf 4 = 1 by kernel_rfl, show Try.prog.cellsOf 33 = 4 by kernel_rfl, show Try.prog.cellsOf 36 = 4 by kernel_rfl, List.drop_zero, List.drop_succ_cons, List.take_succ_cons, List.take_zero, List.getElem?_cons_zero, List.getElem?_cons_succ] at g0 g1 g2 g3 g4
  obtain ⟨z0, rfl, _⟩ := seen_int g0
  obtain ⟨z9, rfl, _⟩ := seen_int g3
  obtain ⟨z10, rfl, _⟩ := seen_int g4
  obtain ⟨ys, n2, -, rfl, -, hlen2, hf2⟩ := DataW.trod_struct Try.underlying33 g1
  match ys, hlen2 with
  | [y0, y1, y2, y3], _ =>
  have k0 := hf2 0 _ rfl
  have k1 := hf2 1 _ rfl
  have k2 := hf2 2 _ rfl
  have k3 := hf2 3 _ rfl
  simp only [show Try.prog.cellsOf 3 = 1 by kernel_rfl, List.drop_zero, List.drop_succ_cons, List.take_succ_cons, List.take_zero, List.getElem?_cons_zero, List.getElem?_cons_succ] at k0 k1 k2 k3
  obtain ⟨z2, rfl, _⟩ := seen_int k0
  obtain ⟨z3, rfl, _⟩ := seen_int k1
  obtain ⟨z4, rfl, _⟩ := seen_int k2
  obtain ⟨z5, rfl, _⟩ := seen_int k3
  obtain ⟨rs, n3, -, rfl, -, hlen3, hf3⟩ := DataW.trod_struct Try.underlying36 g2
  match rs, hlen3 with
  | [r0, r1, r2, r3], _ =>
  have m0 := hf3 0 _ rfl
  have m1 := hf3 1 _ rfl
  have m2 := hf3 2 _ rfl
  have m3 := hf3 3 _ rfl
  simp only [show Try.prog.cellsOf 3 = 1 by kernel_rfl, show Try.prog.cellsOf 4 = 1 by kernel_rfl, show Try.prog.cellsOf 34 = 1 by kernel_rfl, List.drop_zero, List.drop_succ_cons, List.take_succ_cons, List.take_zero, List.getElem?_cons_zero, List.getElem?_cons_succ] at m0 m1 m2 m3
  obtain ⟨b6, rfl⟩ := seen_bool m0
  obtain ⟨z7, rfl, _⟩ := seen_int m1
  obtain ⟨z8, rfl, _⟩ := seen_int m2
  obtain ⟨A, c, ps, rfl, hc, hC, hb⟩ := seen_pairs m3
  refine ⟨⟨z0, ⟨z2, z3, z4, z5⟩, ⟨b6, z7, z8, ps⟩, z9, z10⟩, A, c, rfl, hc, hC, ?_⟩
  simp only [List.map_cons, List.map_nil, Rows.uptoBulk, Rows.uptoBulkAll]
  show ps.length ≤ _
  omega
set_option maxRecDepth 100000 in
theorem seen_calls {fuel : Nat} {v : Value} {y : DataW H × List MemPlace} (h : DataW.trod enc Try.prog w base spare held fuel 56 [v] = some y) : ∃ (A : Option Addr) (cap : Nat) (l : List S76), v = .slice A l.length cap ∧ l.length ≤ cap ∧ Kd.C k76 w A l.length l ∧ l.length ≤ Rows.uptoBulk y.1 ∧ ∀ e ∈ l, e.f2.f3.length ≤ Rows.uptoBulk y.1 := by
  rcases open_slice Try.underlying56 h with ⟨hcs, hx⟩ | ⟨a, len, cap, m, n, D, Pl, hcs, hb, hl, hm, hmm, hx, hi⟩
  · simp at hcs
    exact ⟨none, 0, [], hcs, Nat.le_refl _, ⟨rfl, by simp, fun h => absurd h (Nat.lt_irrefl _)⟩, Nat.zero_le _, by simp⟩
  · simp at hcs
    have hlm : len ≤ m := by rw [hmm]; split <;> omega
    obtain ⟨l, hll, hq⟩ := list_of (fun i (p : S76) => (∃ cs, cs.length = 11 ∧ k76.K w p cs ∧ ∀ j u, cs[j]? = some u → w.cell? (a.add (i * 11 + j)) = some u) ∧ p.f2.f3.length ≤ Rows.uptoBulk y.1) len (fun i hi' => by
      obtain ⟨cs', hc, ht'⟩ := hi i (by omega)
      rw [show Try.prog.cellsOf 76 = 11 by kernel_rfl] at hc
      obtain ⟨_, hcl, hat⟩ := World.cells?_some hc
      obtain ⟨p, A, c, rfl, hlc, hC, hbk⟩ := seen_call ht'
      refine ⟨p, ⟨_, rfl, k76_mk w p hlc hC, fun j u hj => ?_⟩, Nat.le_trans hbk ?_⟩
      · have hj' := (List.getElem?_eq_some_iff.1 hj).1
        have := hat j (by simpa using hj')
        rw [Go.Deep.add_add] at this
        rw [this, hj]
      · rw [hx]
        simp only [Rows.uptoBulk]
        have := bulk_mem (d := D i) (l := (List.range len).map D) (List.mem_map.2 ⟨i, List.mem_range.2 hi', rfl⟩)
        omega)
    have hmx : len ≤ 9223372036854775807 := by unfold maxLen at hm; omega
    refine ⟨some a, cap, l, by rw [hcs, hll], by omega, ⟨rfl, by omega, fun _ => ⟨a, rfl, fun i p hi => (hq i p hi).1⟩⟩, ?_, fun e he => ?_⟩
    · have h1 := bulk_slice y.1
      rw [sliceLen_trod (a := some a) (len := len) (cap := cap) Try.underlying56 (by rw [← hcs]; exact h)] at h1
      omega
    · obtain ⟨i, hi', rfl⟩ := List.mem_iff_getElem.1 he
      exact (hq i _ (List.getElem?_eq_getElem hi')).2
end
end Go.Proofs.Ytagdkmcgepidoaa.P
