/- P.eventApart_holds, part 7 of 41: the contracts of the Go functions that the law calls, its own walk, and its plain law, for every input that the statement speaks of. -/
import Derived.Test.YtagdkmcgepidoaaRows
import Derived.WalkKit
import Derived.ProofKit
import Derived.OpenShut
import Derived.ChangeOld
import Derived.ChangeSlices
import Derived.ChangeSame
import Derived.Below
import Derived.Carry
import Derived.SizedLaws
import Derived.JoinedCond
import Derived.Lib.SmallJoins
import Derived.Deep.Slices
import Derived.Deep.Fields
import Derived.Test.YtagdkmcgepidoaaMAp2
set_option linter.unusedVariables false
set_option linter.unusedSimpArgs false
/- R0 -/
namespace Go.Proofs.Ytagdkmcgepidoaa.P
open Go.ChangeShapes Go.WideShapes Go.ChangeAt Go.RowKit Go.Deep Go.Joins Go.Proofs.YtagdkmcgepidoaaW.PrintWords Go.Proofs.YtagdkmcgepidoaaW.PrintLast Go.Proofs.YtagdkmcgepidoaaW.PrintMore
theorem own : ownKnob Try.prog.godebug = none := by kernel_rfl
theorem laidOut : laidOutB Try.prog = true := by kernel_rfl
section
variable {H : Type} {enc : TypeId × Value → H} {P : Program} {w : World} {base : Nat} {spare : Nat → Bool} {held : Bool}
theorem open_slice_fields {t e : TypeId} {fs : Array Field} {fuel : Nat} {cs : List Value} {x : DataW H × List MemPlace} (ht : P.underlying t = some (.slice e)) (he : P.underlying e = some (.struct fs))
    (hone : oneCellFields P fs = true) (hC : P.cellsOf e = fs.size) (h : DataW.trod enc P w base spare held fuel t cs = some x) :
    (cs = [.slice none 0 0] ∧ x = (.nil, [])) ∨
    ∃ (a : Addr) (len cap m : Nat) (D : Nat → DataW H) (Pl : Nat → List MemPlace), cs = [.slice (some a) len cap] ∧ base ≤ a.block ∧ len ≤ cap ∧ cap ≤ maxLen ∧ m = (if spare a.block then cap else len) ∧
      x = (.slice ((List.range len).map D) ((List.range (m - len)).map fun j => D (len + j)), MemPlace.row a (m * fs.size) ++ (List.range m).flatMap Pl) ∧
      ∀ i, i < m → ∃ (ys : List (DataW H × List MemPlace)) (n : Nat), D i = .agg (ys.map (·.1)) ∧ Pl i = ys.flatMap (·.2) ∧ ys.length = fs.size ∧
        ∀ (j : Nat) (f : Field), fs[j]? = some f → ∃ (v : Value) (y : DataW H × List MemPlace), w.cell? (a.add (i * fs.size + j)) = some v ∧ ys[j]? = some y ∧ DataW.trod enc P w base spare held n f.type [v] = some y := by
  rcases open_slice ht h with h0 | ⟨a, len, cap, m, n, D, Pl, hcs, hb, hl, hm, hmm, hx, hi⟩
  · exact .inl h0
  · refine .inr ⟨a, len, cap, m, D, Pl, hcs, hb, hl, hm, hmm, by rw [hC] at hx; exact hx, fun i him => ?_⟩
    obtain ⟨cs', hc, ht'⟩ := hi i him
    rw [hC] at hc
    obtain ⟨ys, n', hn', hy, hlen, hyl, hf⟩ := DataW.trod_struct he ht'
    obtain ⟨_, hcl, hat⟩ := World.cells?_some hc
    simp only [Prod.mk.injEq] at hy
    refine ⟨ys, n', hy.1, hy.2, hyl, fun j f hj => ?_⟩
    obtain ⟨ho, hk⟩ := hone_of hone j f hj
    have hjl : j < fs.size := (Array.getElem?_eq_some_iff.1 hj).1
    have hcell := hat j hjl
    have hv : cs'[j]? = some (cs'[j]'(by omega)) := List.getElem?_eq_getElem (by omega)
    have h1 := hf j f hj
    rw [ho, hk] at h1
    have hone' : (cs'.drop j).take 1 = [cs'[j]'(by omega)] := by
      rw [List.drop_eq_getElem_cons (by omega)]
      rfl
    rw [hone'] at h1
    have hys : ys[j]? = some (ys[j]'(by omega)) := List.getElem?_eq_getElem (by omega)
    refine ⟨_, _, ?_, hys, h1.trans hys⟩
    rw [← Go.Deep.add_add, hcell, hv]
theorem list_of {α : Type} (Q : Nat → α → Prop) : ∀ n, (∀ i, i < n → ∃ p, Q i p) → ∃ l : List α, l.length = n ∧ ∀ i p, l[i]? = some p → Q i p
  | 0, _ => ⟨[], rfl, fun i p h => by simp at h⟩
  | n + 1, h => by
    obtain ⟨l, hl, hq⟩ := list_of Q n (fun i hi => h i (by omega))
    obtain ⟨p, hp⟩ := h n (by omega)
    refine ⟨l ++ [p], by simp [hl], fun i q hi => ?_⟩
    rcases Nat.lt_or_ge i n with hlt | hge
    · rw [List.getElem?_append_left (by omega)] at hi
      exact hq i q hi
    · have hin : i = n := by
        rcases Nat.lt_or_ge i (n + 1) with h1 | h1
        · omega
        · rw [List.getElem?_eq_none (by simp [hl]; omega)] at hi
          cases hi
      subst hin
      rw [List.getElem?_append_right (by omega), hl] at hi
      simp at hi
      subst hi
      exact hp
theorem bulk_slice (d : DataW H) : sliceLen d ≤ Rows.uptoBulk d := by
  have hl : ∀ l : List (DataW H), l.length ≤ Rows.uptoBulkAll l := by
    intro l
    induction l with
    | nil => simp [Rows.uptoBulkAll]
    | cons x r ih =>
      have h1 : 1 ≤ Rows.uptoBulk x := by
        cases x with
        | lit l => cases l <;> simp [Rows.uptoBulk]
        | nil => simp [Rows.uptoBulk]
        | ptr d => simp [Rows.uptoBulk]
        | slice elems spare => simp [Rows.uptoBulk]
        | agg parts => simp [Rows.uptoBulk]
        | iface t d => simp [Rows.uptoBulk]
        | map entries => simp [Rows.uptoBulk]
        | held h => simp [Rows.uptoBulk]
      simp only [Rows.uptoBulkAll, List.length_cons]
      omega
  unfold sliceLen
  split
  · rename_i el sp
    have := hl el
    simp only [Rows.uptoBulk]
    omega
  · omega
end
section
variable {H : Type} {enc : TypeId × Value → H} {w : World} {base : Nat} {spare : Nat → Bool} {held : Bool}
theorem seen_int {fuel : Nat} {v : Value} {y : DataW H × List MemPlace} (h : DataW.trod enc Try.prog w base spare held fuel 3 [v] = some y) : ∃ z, v = .int .i64 z ∧ (Lit.int .i64 z).wf = true := by
  obtain ⟨n, hn, hx, hw⟩ := DataW.trod_int Try.underlying3 h
  simp at hn
  exact ⟨n, hn, hw⟩
theorem seen_bool {fuel : Nat} {v : Value} {y : DataW H × List MemPlace} (h : DataW.trod enc Try.prog w base spare held fuel 4 [v] = some y) : ∃ b, v = .bool b := by
  obtain ⟨b, hb, _⟩ := DataW.trod_bool Try.underlying4 h
  simp at hb
  exact ⟨b, hb⟩
theorem bulk_mem {d : DataW H} : ∀ {l : List (DataW H)}, d ∈ l → Rows.uptoBulk d ≤ Rows.uptoBulkAll l
  | x :: r, h => by
    simp only [Rows.uptoBulkAll]
    rcases List.mem_cons.1 h with rfl | h
    · omega
    · have := bulk_mem h
      omega
theorem seen_pairs {fuel : Nat} {v : Value} {y : DataW H × List MemPlace} (h : DataW.trod enc Try.prog w base spare held fuel 34 [v] = some y) : ∃ (A : Option Addr) (cap : Nat) (l : List S70), v = .slice A l.length cap ∧ l.length ≤ cap ∧ Kd.C k70 w A l.length l ∧ l.length ≤ Rows.uptoBulk y.1 := by
  rcases open_slice_fields Try.underlying34 Try.underlying70 (by kernel_rfl) (by kernel_rfl) h with ⟨hcs, hx⟩ | ⟨a, len, cap, m, D, Pl, hcs, hb, hl, hm, hmm, hx, hi⟩
  · simp at hcs
    exact ⟨none, 0, [], hcs, Nat.le_refl _, ⟨rfl, by simp, fun h => absurd h (Nat.lt_irrefl _)⟩, Nat.zero_le _⟩
  · simp at hcs
    have hlm : len ≤ m := by rw [hmm]; split <;> omega
    obtain ⟨l, hll, hq⟩ := list_of (fun i (p : S70) => ∀ j u, [Value.int .i64 p.f0, .int .i64 p.f1][j]? = some u → w.cell? (a.add (i * 2 + j)) = some u) len (fun i hi' => by
      obtain ⟨ys, n, _, _, _, hf⟩ := hi i (by omega)
      obtain ⟨v0, y0, c0, _, t0⟩ := hf 0 _ rfl
      obtain ⟨v1, y1, c1, _, t1⟩ := hf 1 _ rfl
      obtain ⟨z0, rfl, _⟩ := seen_int t0
      obtain ⟨z1, rfl, _⟩ := seen_int t1
      refine ⟨⟨z0, z1⟩, fun j u hj => ?_⟩
      match j, hj with
      | 0, hj => simp at hj; subst hj; exact c0
      | 1, hj => simp at hj; subst hj; exact c1
      | j + 2, hj => simp at hj)
    have hmx : len ≤ 9223372036854775807 := by unfold maxLen at hm; omega
    refine ⟨some a, cap, l, by rw [hcs, hll], by omega, ⟨rfl, by omega, fun _ => ⟨a, rfl, fun i p hi => ⟨_, rfl, k70_mk w p, fun j u hj => hq i p hi j u hj⟩⟩⟩, ?_⟩
    have h1 := bulk_slice y.1
    rw [sliceLen_trod (a := some a) (len := len) (cap := cap) Try.underlying34 (by rw [← hcs]; exact h)] at h1
    omega
set_option maxRecDepth 100000 in
theorem seen_event {fuel : Nat} {cs : List Value} {y : DataW H × List MemPlace} (h : DataW.trod enc Try.prog w base spare held fuel 67 cs = some y) : ∃ (p : S67) (A : Option Addr) (c : Nat), cs = [.int .i64 p.f0, .bool p.f1, .int .i64 p.f2.f0, .int .i64 p.f2.f1, .int .i64 p.f2.f2, .int .i64 p.f2.f3, .bool p.f3.f0, .int .i64 p.f3.f1, .int .i64 p.f3.f2, .slice A p.f3.f3.length c] ∧ p.f3.f3.length ≤ c ∧ Kd.C k70 w A p.f3.f3.length p.f3.f3 ∧ p.f3.f3.length ≤ Rows.uptoBulk y.1 := by
  obtain ⟨xs, n, -, rfl, hl, hlen, hf⟩ := DataW.trod_struct Try.underlying67 h
  rw [show Try.prog.cellsOf 67 = 10 by kernel_rfl] at hl
  match cs, hl with
  | [c0, c1, c2, c3, c4, c5, c6, c7, c8, c9], _ =>
  match xs, hlen with
  | [x0, x1, x2, x3], _ =>
  have g0 := hf 0 _ rfl
  have g1 := hf 1 _ rfl
  have g2 := hf 2 _ rfl
  have g3 := hf 3 _ rfl
  simp only [show Try.prog.cellsOf 3 = 1 by kernel_rfl, show Try.prog.cellsOf 4 = 1 by kernel_rfl, show Try.prog.cellsOf 33 = 4 by kernel_rfl, show Try.prog.cellsOf 36 = 4 by kernel_rfl, List.drop_zero, List.drop_succ_cons, List.take_succ_cons, List.take_zero, List.getElem?_cons_zero, List.getElem?_cons_succ] at g0 g1 g2 g3
  obtain ⟨z0, rfl, _⟩ := seen_int g0
  obtain ⟨b1, rfl⟩ := seen_bool g1
  obtain ⟨ys, n2, -, rfl, -, hlen2, hf2⟩ := DataW.trod_struct Try.underlying33 g2
  match ys, hlen2 with
  | [y0, y1, y2, y3], _ =>
  have k0 := hf2 0 _ rfl
  have k1 := hf2 1 _ rfl
  have k2 := hf2 2 _ rfl
  have k3 := hf2 3 _ rfl
  simp only [show Try.prog.cellsOf 3 = 1 by kernel_rfl, List.drop_zero, List.drop_succ_cons, List.take_succ_cons, List.take_zero, List.getElem?_cons_zero, List.getElem?_cons_succ] at k0 k1 k2 k3
  obtain ⟨z2, rfl, _⟩ := seen_int k0
  obtain ⟨z3, rfl, _⟩ := seen_int k1
  obtain ⟨z4, rfl, _⟩ := seen_int k2
  obtain ⟨z5, rfl, _⟩ := seen_int k3
  obtain ⟨rs, n3, -, rfl, -, hlen3, hf3⟩ := DataW.trod_struct Try.underlying36 g3
  match rs, hlen3 with
  | [r0, r1, r2, r3], _ =>
  have m0 := hf3 0 _ rfl
  have m1 := hf3 1 _ rfl
  have m2 := hf3 2 _ rfl
  have m3 := hf3 3 _ rfl
  simp only [show Try.prog.cellsOf 3 = 1 by kernel_rfl, show Try.prog.cellsOf 4 = 1 by kernel_rfl, show Try.prog.cellsOf 34 = 1 by kernel_rfl, List.drop_zero, List.drop_succ_cons, List.take_succ_cons, List.take_zero, List.getElem?_cons_zero, List.getElem?_cons_succ] at m0 m1 m2 m3
  obtain ⟨b6, rfl⟩ := seen_bool m0
  obtain ⟨z7, rfl, _⟩ := seen_int m1
  obtain ⟨z8, rfl, _⟩ := seen_int m2
  obtain ⟨A, c, ps, rfl, hc, hC, hb⟩ := seen_pairs m3
  refine ⟨⟨z0, b1, ⟨z2, z3, z4, z5⟩, ⟨b6, z7, z8, ps⟩⟩, A, c, rfl, hc, hC, ?_⟩
  simp only [List.map_cons, List.map_nil, Rows.uptoBulk, Rows.uptoBulkAll]
  show ps.length ≤ _
  omega
set_option maxRecDepth 100000 in
theorem seen_events {fuel : Nat} {v : Value} {y : DataW H × List MemPlace} (h : DataW.trod enc Try.prog w base spare held fuel 22 [v] = some y) : ∃ (A : Option Addr) (cap : Nat) (l : List S67), v = .slice A l.length cap ∧ l.length ≤ cap ∧ Kd.C k67 w A l.length l ∧ l.length ≤ Rows.uptoBulk y.1 ∧ ∀ e ∈ l, e.f3.f3.length ≤ Rows.uptoBulk y.1 := by
  rcases open_slice Try.underlying22 h with ⟨hcs, hx⟩ | ⟨a, len, cap, m, n, D, Pl, hcs, hb, hl, hm, hmm, hx, hi⟩
  · simp at hcs
    exact ⟨none, 0, [], hcs, Nat.le_refl _, ⟨rfl, by simp, fun h => absurd h (Nat.lt_irrefl _)⟩, Nat.zero_le _, by simp⟩
  · simp at hcs
    have hlm : len ≤ m := by rw [hmm]; split <;> omega
    obtain ⟨l, hll, hq⟩ := list_of (fun i (p : S67) => (∃ cs, cs.length = 10 ∧ k67.K w p cs ∧ ∀ j u, cs[j]? = some u → w.cell? (a.add (i * 10 + j)) = some u) ∧ p.f3.f3.length ≤ Rows.uptoBulk y.1) len (fun i hi' => by
      obtain ⟨cs', hc, ht'⟩ := hi i (by omega)
      rw [show Try.prog.cellsOf 67 = 10 by kernel_rfl] at hc
      obtain ⟨_, hcl, hat⟩ := World.cells?_some hc
      obtain ⟨p, A, c, rfl, hlc, hC, hbk⟩ := seen_event ht'
      refine ⟨p, ⟨_, rfl, k67_mk w p hlc hC, fun j u hj => ?_⟩, Nat.le_trans hbk ?_⟩
      · have hj' := (List.getElem?_eq_some_iff.1 hj).1
        have := hat j (by simpa using hj')
        rw [Go.Deep.add_add] at this
        rw [this, hj]
      · rw [hx]
        simp only [Rows.uptoBulk]
        have := bulk_mem (d := D i) (l := (List.range len).map D) (List.mem_map.2 ⟨i, List.mem_range.2 hi', rfl⟩)
        omega)
    have hmx : len ≤ 9223372036854775807 := by unfold maxLen at hm; omega
    refine ⟨some a, cap, l, by rw [hcs, hll], by omega, ⟨rfl, by omega, fun _ => ⟨a, rfl, fun i p hi => (hq i p hi).1⟩⟩, ?_, fun e he => ?_⟩
    · have h1 := bulk_slice y.1
      rw [sliceLen_trod (a := some a) (len := len) (cap := cap) Try.underlying22 (by rw [← hcs]; exact h)] at h1
      omega
    · obtain ⟨i, hi', rfl⟩ := List.mem_iff_getElem.1 he
      exact (hq i _ (List.getElem?_eq_getElem hi')).2
end
end Go.Proofs.Ytagdkmcgepidoaa.P
