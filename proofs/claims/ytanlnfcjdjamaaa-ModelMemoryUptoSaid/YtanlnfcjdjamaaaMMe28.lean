/- P.modelMemory_holds, part 29 of 37: the contracts of the Go functions that the law calls, its own walk, and its plain law, for every input that the statement speaks of. -/
import Derived.Test.YtanlnfcjdjamaaaRows
import Derived.WalkKit
import Derived.ProofKit
import Derived.OpenShut
import Derived.ChangeOld
import Derived.ChangeSlices
import Derived.ChangeSame
import Derived.Below
import Derived.Carry
import Derived.SizedLaws
import Derived.JoinedCond
import Derived.Lib.SmallJoins
import Derived.Deep.Slices
import Derived.Deep.Fields
import Derived.Test.YtanlnfcjdjamaaaMMe2
set_option linter.unusedVariables false
set_option linter.unusedSimpArgs false
/- R0 -/
namespace Go.Proofs.Ytanlnfcjdjamaaa.P
open Go.ChangeShapes Go.WideShapes Go.ChangeAt Go.RowKit Go.Deep Go.Joins Go.Proofs.YtanlnfcjdjamaaaW.PrintWords Go.Proofs.YtanlnfcjdjamaaaW.PrintLast Go.Proofs.YtanlnfcjdjamaaaW.PrintMore
theorem own : ownKnob Try.prog.godebug = none := by kernel_rfl
theorem laidOut : laidOutB Try.prog = true := by kernel_rfl
section
variable {H : Type} {enc : TypeId × Value → H} {P : Program} {w : World} {base : Nat} {spare : Nat → Bool} {held : Bool}
theorem open_slice_fields {t e : TypeId} {fs : Array Field} {fuel : Nat} {cs : List Value} {x : DataW H × List MemPlace} (ht : P.underlying t = some (.slice e)) (he : P.underlying e = some (.struct fs))
    (hone : oneCellFields P fs = true) (hC : P.cellsOf e = fs.size) (h : DataW.trod enc P w base spare held fuel t cs = some x) :
    (cs = [.slice none 0 0] ∧ x = (.nil, [])) ∨
    ∃ (a : Addr) (len cap m : Nat) (D : Nat → DataW H) (Pl : Nat → List MemPlace), cs = [.slice (some a) len cap] ∧ base ≤ a.block ∧ len ≤ cap ∧ cap ≤ maxLen ∧ m = (if spare a.block then cap else len) ∧
      x = (.slice ((List.range len).map D) ((List.range (m - len)).map fun j => D (len + j)), MemPlace.row a (m * fs.size) ++ (List.range m).flatMap Pl) ∧
      ∀ i, i < m → ∃ (ys : List (DataW H × List MemPlace)) (n : Nat), D i = .agg (ys.map (·.1)) ∧ Pl i = ys.flatMap (·.2) ∧ ys.length = fs.size ∧
        ∀ (j : Nat) (f : Field), fs[j]? = some f → ∃ (v : Value) (y : DataW H × List MemPlace), w.cell? (a.add (i * fs.size + j)) = some v ∧ ys[j]? = some y ∧ DataW.trod enc P w base spare held n f.type [v] = some y := by
  rcases open_slice ht h with h0 | ⟨a, len, cap, m, n, D, Pl, hcs, hb, hl, hm, hmm, hx, hi⟩
  · exact .inl h0
  · refine .inr ⟨a, len, cap, m, D, Pl, hcs, hb, hl, hm, hmm, by rw [hC] at hx; exact hx, fun i him => ?_⟩
    obtain ⟨cs', hc, ht'⟩ := hi i him
    rw [hC] at hc
    obtain ⟨ys, n', hn', hy, hlen, hyl, hf⟩ := DataW.trod_struct he ht'
    obtain ⟨_, hcl, hat⟩ := World.cells?_some hc
    simp only [Prod.mk.injEq] at hy
    refine ⟨ys, n', hy.1, hy.2, hyl, fun j f hj => ?_⟩
    obtain ⟨ho, hk⟩ := hone_of hone j f hj
    have hjl : j < fs.size := (Array.getElem?_eq_some_iff.1 hj).1
    have hcell := hat j hjl
    have hv : cs'[j]? = some (cs'[j]'(by omega)) := List.getElem?_eq_getElem (by omega)
    have h1 := hf j f hj
    rw [ho, hk] at h1
    have hone' : (cs'.drop j).take 1 = [cs'[j]'(by omega)] := by
      rw [List.drop_eq_getElem_cons (by omega)]
      rfl
    rw [hone'] at h1
    have hys : ys[j]? = some (ys[j]'(by omega)) := List.getElem?_eq_getElem (by omega)
    refine ⟨_, _, ?_, hys, h1.trans hys⟩
    rw [← Go.Deep.add_add, hcell, hv]
theorem list_of {α : Type} (Q : Nat → α → Prop) : ∀ n, (∀ i, i < n → ∃ p, Q i p) → ∃ l : List α, l.length = n ∧ ∀ i p, l[i]? = some p → Q i p
  | 0, _ => ⟨[], rfl, fun i p h => by simp at h⟩
  | n + 1, h => by
    obtain ⟨l, hl, hq⟩ := list_of Q n (fun i hi => h i (by omega))
    obtain ⟨p, hp⟩ := h n (by omega)
    refine ⟨l ++ [p], by simp [hl], fun i q hi => ?_⟩
    rcases Nat.lt_or_ge i n with hlt | hge
    · rw [List.getElem?_append_left (by omega)] at hi
      exact hq i q hi
    · have hin : i = n := by
        rcases Nat.lt_or_ge i (n + 1) with h1 | h1
        · omega
        · rw [List.getElem?_eq_none (by simp [hl]; omega)] at hi
          cases hi
      subst hin
      rw [List.getElem?_append_right (by omega), hl] at hi
      simp at hi
      subst hi
      exact hp
theorem bulk_slice (d : DataW H) : sliceLen d ≤ Rows.uptoBulk d := by
  have hl : ∀ l : List (DataW H), l.length ≤ Rows.uptoBulkAll l := by
    intro l
    induction l with
    | nil => simp [Rows.uptoBulkAll]
    | cons x r ih =>
      have h1 : 1 ≤ Rows.uptoBulk x := by
        cases x with
        | lit l => cases l <;> simp [Rows.uptoBulk]
        | nil => simp [Rows.uptoBulk]
        | ptr d => simp [Rows.uptoBulk]
        | slice elems spare => simp [Rows.uptoBulk]
        | agg parts => simp [Rows.uptoBulk]
        | iface t d => simp [Rows.uptoBulk]
        | map entries => simp [Rows.uptoBulk]
        | held h => simp [Rows.uptoBulk]
      simp only [Rows.uptoBulkAll, List.length_cons]
      omega
  unfold sliceLen
  split
  · rename_i el sp
    have := hl el
    simp only [Rows.uptoBulk]
    omega
  · omega
end
section
variable {H : Type} {enc : TypeId × Value → H} {w : World} {base : Nat} {spare : Nat → Bool} {held : Bool}
theorem seen_int {fuel : Nat} {v : Value} {y : DataW H × List MemPlace} (h : DataW.trod enc Try.prog w base spare held fuel 3 [v] = some y) : ∃ z, v = .int .i64 z ∧ (Lit.int .i64 z).wf = true := by
  obtain ⟨n, hn, hx, hw⟩ := DataW.trod_int Try.underlying3 h
  simp at hn
  exact ⟨n, hn, hw⟩
theorem seen_bool {fuel : Nat} {v : Value} {y : DataW H × List MemPlace} (h : DataW.trod enc Try.prog w base spare held fuel 4 [v] = some y) : ∃ b, v = .bool b := by
  obtain ⟨b, hb, _⟩ := DataW.trod_bool Try.underlying4 h
  simp at hb
  exact ⟨b, hb⟩
theorem seen_pairs {fuel : Nat} {v : Value} {y : DataW H × List MemPlace} (h : DataW.trod enc Try.prog w base spare held fuel 22 [v] = some y) : ∃ (A : Option Addr) (cap : Nat) (l : List S51), v = .slice A l.length cap ∧ l.length ≤ cap ∧ Kd.C k51 w A l.length l ∧ l.length ≤ Rows.uptoBulk y.1 := by
  rcases open_slice_fields Try.underlying22 Try.underlying51 (by kernel_rfl) (by kernel_rfl) h with ⟨hcs, hx⟩ | ⟨a, len, cap, m, D, Pl, hcs, hb, hl, hm, hmm, hx, hi⟩
  · simp at hcs
    exact ⟨none, 0, [], hcs, Nat.le_refl _, ⟨rfl, by simp, fun h => absurd h (Nat.lt_irrefl _)⟩, Nat.zero_le _⟩
  · simp at hcs
    have hlm : len ≤ m := by rw [hmm]; split <;> omega
    obtain ⟨l, hll, hq⟩ := list_of (fun i (p : S51) => ∀ j u, [Value.int .i64 p.f0, .int .i64 p.f1][j]? = some u → w.cell? (a.add (i * 2 + j)) = some u) len (fun i hi' => by
      obtain ⟨ys, n, _, _, _, hf⟩ := hi i (by omega)
      obtain ⟨v0, y0, c0, _, t0⟩ := hf 0 _ rfl
      obtain ⟨v1, y1, c1, _, t1⟩ := hf 1 _ rfl
      obtain ⟨z0, rfl, _⟩ := seen_int t0
      obtain ⟨z1, rfl, _⟩ := seen_int t1
      refine ⟨⟨z0, z1⟩, fun j u hj => ?_⟩
      match j, hj with
      | 0, hj => simp at hj; subst hj; exact c0
      | 1, hj => simp at hj; subst hj; exact c1
      | j + 2, hj => simp at hj)
    have hmx : len ≤ 9223372036854775807 := by unfold maxLen at hm; omega
    refine ⟨some a, cap, l, by rw [hcs, hll], by omega, ⟨rfl, by omega, fun _ => ⟨a, rfl, fun i p hi => ⟨_, rfl, k51_mk w p, fun j u hj => hq i p hi j u hj⟩⟩⟩, ?_⟩
    have h1 := bulk_slice y.1
    rw [sliceLen_trod (a := some a) (len := len) (cap := cap) Try.underlying22 (by rw [← hcs]; exact h)] at h1
    omega
theorem seen_ops {fuel : Nat} {v : Value} {y : DataW H × List MemPlace} (h : DataW.trod enc Try.prog w base spare held fuel 23 [v] = some y) : ∃ (A : Option Addr) (cap : Nat) (l : List S25), v = .slice A l.length cap ∧ l.length ≤ cap ∧ Kd.C k25 w A l.length l ∧ l.length ≤ Rows.uptoBulk y.1 := by
  rcases open_slice_fields Try.underlying23 Try.underlying25 (by kernel_rfl) (by kernel_rfl) h with ⟨hcs, hx⟩ | ⟨a, len, cap, m, D, Pl, hcs, hb, hl, hm, hmm, hx, hi⟩
  · simp at hcs
    exact ⟨none, 0, [], hcs, Nat.le_refl _, ⟨rfl, by simp, fun h => absurd h (Nat.lt_irrefl _)⟩, Nat.zero_le _⟩
  · simp at hcs
    have hlm : len ≤ m := by rw [hmm]; split <;> omega
    obtain ⟨l, hll, hq⟩ := list_of (fun i (p : S25) => ∀ j u, [Value.int .i64 p.f0, .int .i64 p.f1, .int .i64 p.f2, .int .i64 p.f3][j]? = some u → w.cell? (a.add (i * 4 + j)) = some u) len (fun i hi' => by
      obtain ⟨ys, n, _, _, _, hf⟩ := hi i (by omega)
      obtain ⟨v0, y0, c0, _, t0⟩ := hf 0 _ rfl
      obtain ⟨v1, y1, c1, _, t1⟩ := hf 1 _ rfl
      obtain ⟨v2, y2, c2, _, t2⟩ := hf 2 _ rfl
      obtain ⟨v3, y3, c3, _, t3⟩ := hf 3 _ rfl
      obtain ⟨z0, rfl, _⟩ := seen_int t0
      obtain ⟨z1, rfl, _⟩ := seen_int t1
      obtain ⟨z2, rfl, _⟩ := seen_int t2
      obtain ⟨z3, rfl, _⟩ := seen_int t3
      refine ⟨⟨z0, z1, z2, z3⟩, fun j u hj => ?_⟩
      match j, hj with
      | 0, hj => simp at hj; subst hj; exact c0
      | 1, hj => simp at hj; subst hj; exact c1
      | 2, hj => simp at hj; subst hj; exact c2
      | 3, hj => simp at hj; subst hj; exact c3
      | j + 4, hj => simp at hj)
    have hmx : len ≤ 9223372036854775807 := by unfold maxLen at hm; omega
    refine ⟨some a, cap, l, by rw [hcs, hll], by omega, ⟨rfl, by omega, fun _ => ⟨a, rfl, fun i p hi => ⟨_, rfl, k25_mk w p, fun j u hj => hq i p hi j u hj⟩⟩⟩, ?_⟩
    have h1 := bulk_slice y.1
    rw [sliceLen_trod (a := some a) (len := len) (cap := cap) Try.underlying23 (by rw [← hcs]; exact h)] at h1
    omega
set_option maxRecDepth 100000 in
theorem seen_case {r : Reach} {b0 : Nat} {v : Value} {d : DataW H} {p : List MemPlace} (hv : Value.okWide Try.prog w r b0 29 v) (h : DataW.Trod enc Try.prog w base spare held 29 v d p) :
    ∃ (A0 A1 A2 A3 A4 : Option Addr) (c0 c1 c2 c3 c4 : Nat) (l0 l1 : List S51) (l2 l3 : List S25) (o0 o1 o2 o3 : Int) (b : Bool) (q1 q2 : Int) (ps : List S51) (k hi : Int),
      v = .agg #[.slice A0 l0.length c0, .slice A1 l1.length c1, .slice A2 l2.length c2, .slice A3 l3.length c3, .int .i64 o0, .int .i64 o1, .int .i64 o2, .int .i64 o3, .bool b, .int .i64 q1, .int .i64 q2, .slice A4 ps.length c4, .int .i64 k, .int .i64 hi] ∧
      (l0.length ≤ c0 ∧ Kd.C k51 w A0 l0.length l0) ∧ (l1.length ≤ c1 ∧ Kd.C k51 w A1 l1.length l1) ∧ (l2.length ≤ c2 ∧ Kd.C k25 w A2 l2.length l2) ∧ (l3.length ≤ c3 ∧ Kd.C k25 w A3 l3.length l3) ∧ (ps.length ≤ c4 ∧ Kd.C k51 w A4 ps.length ps) ∧
      l0.length + l1.length + l2.length + l3.length + ps.length ≤ Rows.uptoBulk d ∧ (Lit.int .i64 k).wf = true ∧ (Lit.int .i64 hi).wf = true ∧ (Lit.int .i64 o1).wf = true ∧ (Lit.int .i64 o3).wf = true := by
  obtain ⟨arr, rfl, hsz⟩ := okWide_struct Try.underlying29 hv
  obtain ⟨fuel, hf0⟩ := h
  obtain ⟨cs, rfl⟩ : ∃ cs : List Value, arr = cs.toArray := ⟨arr.toList, by simp⟩
  have hf1 : DataW.trod enc Try.prog w base spare held fuel 29 cs = some (d, p) := by simpa [Value.cells] using hf0
  obtain ⟨xs, n, -, hx, hl, hlen, hf⟩ := DataW.trod_struct Try.underlying29 hf1
  rw [show Try.prog.cellsOf 29 = 14 by kernel_rfl] at hl
  match cs, hl with
  | [c0, c1, c2, c3, c4, c5, c6, c7, c8, c9, c10, c11, c12, c13], _ =>
  match xs, hlen with
  | [x0, x1, x2, x3, x4, x5, x6, x7], _ =>
  have g0 := hf 0 _ rfl
  have g1 := hf 1 _ rfl
  have g2 := hf 2 _ rfl
  have g3 := hf 3 _ rfl
  have g4 := hf 4 _ rfl
  have g5 := hf 5 _ rfl
  have g6 := hf 6 _ rfl
  have g7 := hf 7 _ rfl
  simp only [show Try.prog.cellsOf 3 = 1 by kernel_rfl, show Try.prog.cellsOf 22 = 1 by kernel_rfl, show Try.prog.cellsOf 23 = 1 by kernel_rfl, show Try.prog.cellsOf 25 = 4 by kernel_rfl, show Try.prog.cellsOf 27 = 4 by kernel_rfl, List.drop_zero, List.drop_succ_cons, List.take_succ_cons, List.take_zero, List.getElem?_cons_zero, List.getElem?_cons_succ] at g0 g1 g2 g3 g4 g5 g6 g7
  obtain ⟨A0, e0, l0, rfl, hc0, hC0, hb0⟩ := seen_pairs g0
  obtain ⟨A1, e1, l1, rfl, hc1, hC1, hb1⟩ := seen_pairs g1
  obtain ⟨A2, e2, l2, rfl, hc2, hC2, hb2⟩ := seen_ops g2
  obtain ⟨A3, e3, l3, rfl, hc3, hC3, hb3⟩ := seen_ops g3
  obtain ⟨ys, n2, -, rfl, -, hlen2, hf2⟩ := DataW.trod_struct Try.underlying25 g4
  match ys, hlen2 with
  | [y0, y1, y2, y3], _ =>
  have k0 := hf2 0 _ rfl
  have k1 := hf2 1 _ rfl
  have k2 := hf2 2 _ rfl
  have k3 := hf2 3 _ rfl
  simp only [show Try.prog.cellsOf 3 = 1 by kernel_rfl, List.drop_zero, List.drop_succ_cons, List.take_succ_cons, List.take_zero, List.getElem?_cons_zero, List.getElem?_cons_succ] at k0 k1 k2 k3
  obtain ⟨z4, rfl, _⟩ := seen_int k0
  obtain ⟨z5, rfl, w5⟩ := seen_int k1
  obtain ⟨z6, rfl, _⟩ := seen_int k2
  obtain ⟨z7, rfl, w7⟩ := seen_int k3
  obtain ⟨rs, n3, -, rfl, -, hlen3, hf3⟩ := DataW.trod_struct Try.underlying27 g5
  match rs, hlen3 with
  | [r0, r1, r2, r3], _ =>
  have m0 := hf3 0 _ rfl
  have m1 := hf3 1 _ rfl
  have m2 := hf3 2 _ rfl
  have m3 := hf3 3 _ rfl
  simp only [show Try.prog.cellsOf 3 = 1 by kernel_rfl, show Try.prog.cellsOf 4 = 1 by kernel_rfl, show Try.prog.cellsOf 22 = 1 by kernel_rfl, List.drop_zero, List.drop_succ_cons, List.take_succ_cons, List.take_zero, List.getElem?_cons_zero, List.getElem?_cons_succ] at m0 m1 m2 m3
  obtain ⟨b8, rfl⟩ := seen_bool m0
  obtain ⟨z9, rfl, _⟩ := seen_int m1
  obtain ⟨z10, rfl, _⟩ := seen_int m2
  obtain ⟨A4, e4, ps, rfl, hc4, hC4, hb4⟩ := seen_pairs m3
  obtain ⟨z12, rfl, w12⟩ := seen_int g6
  obtain ⟨z13, rfl, w13⟩ := seen_int g7
  simp only [Prod.mk.injEq] at hx
  refine ⟨A0, A1, A2, A3, A4, e0, e1, e2, e3, e4, l0, l1, l2, l3, z4, z5, z6, z7, b8, z9, z10, ps, z12, z13, rfl, ⟨hc0, hC0⟩, ⟨hc1, hC1⟩, ⟨hc2, hC2⟩, ⟨hc3, hC3⟩, ⟨hc4, hC4⟩, ?_, w12, w13, w5, w7⟩
  rw [hx.1]
  simp only [List.map_cons, List.map_nil, Rows.uptoBulk, Rows.uptoBulkAll]
  omega
end
end Go.Proofs.Ytanlnfcjdjamaaa.P
