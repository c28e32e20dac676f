/- P.modelMemory_holds, part 13 of 37: the contracts of the Go functions that the law calls, its own walk, and its plain law, for every input that the statement speaks of. -/
import Derived.Test.YtanlnfcjdjamaaaMMe11
import Derived.RegionTactic
import Derived.ChangeAlike
import Derived.Outline
import Derived.WalkSpells
import Derived.Deep.RegionLaw
import Derived.Test.YtanlnfcjdjamaaaMMe2
set_option linter.unusedVariables false
set_option linter.unusedSimpArgs false
/- E3 -/
namespace Go.Proofs.Ytanlnfcjdjamaaa.P
open Go.RowKit Go.Proofs.YtanlnfcjdjamaaaW.PrintWords Go.Proofs.YtanlnfcjdjamaaaW.PrintLast Go.Proofs.YtanlnfcjdjamaaaW.PrintMore
theorem run_clear_cells {P : Program} (w : World) (t e ty : TypeId) (z : Value) (ht : P.underlying t = some (.slice e)) (hv : ∀ w, (zeroValue e).run P w = .ok z w) (h1 : ∀ v ∈ z.cells.toList, v.oneCell' = true) (hz : 0 < z.cells.size) (b o n c : Nat) (hn : 0 < n)
    (hc : ∀ j, j < n * z.cells.size → (w.cell? ⟨b, o + j, none⟩).isSome = true) (hf : ∀ j, j < n * z.cells.size → w.frozen? ⟨b, o + j, none⟩ = false) :
    ∃ vs : List Value, vs.length = n * z.cells.size ∧ (Builtin.clear_ #[t] ty #[.slice (some ⟨b, o, none⟩) n c]).run P w = .ok (.tuple #[]) (w.setCells b o vs) := by
  refine ⟨(Builtin.zeroCells z.cells n).toList, by simp [Builtin.zeroCells], ?_⟩
  have hl : (Builtin.zeroCells z.cells n).toList.length = n * z.cells.size := by simp [Builtin.zeroCells]
  have hst := run_storeCells_cells (P := P) b o (Builtin.zeroCells z.cells n).toList 0 w (by rw [hl]; simpa using hc) (by rw [hl]; simpa using hf) (by
    intro v hv'
    simp only [Builtin.zeroCells, Array.toList_map, List.mem_map] at hv'
    obtain ⟨i, _, rfl⟩ := hv'
    have hi : i % z.cells.size < z.cells.size := Nat.mod_lt _ hz
    rw [getElem!_pos z.cells _ hi]
    exact h1 _ (by simp))
  simp only [Nat.add_zero] at hst
  obtain ⟨m, rfl⟩ : ∃ m, n = m + 1 := ⟨n - 1, by omega⟩
  simp [Builtin.clear_, run_underlying ht, hv, hst]
theorem step_append_runI {P : Program} {ops : Array Oper} {o : Oper} {a : Act} {w : World} {K : Act → World → Prop} {Q : Exit → Act → World → Prop} {E : Prop}
    (hg : o.guard = none) (d x : Operand) (dT sT : TypeId) (hop : o.op = Op.call { callee := Callee.builtin Builtin.append, args := #[d, x], argTypes := #[dT, sT] })
    (v u : Value) (hd : a.eval d = v) (hx : a.eval x = u) {v' : Value} {w' : World} (hr : (Builtin.append_ #[dT, sT] o.type #[v, u]).run P w = .ok v' w') (hK : K (a.put o.dst v') w') :
    if Region.wanted o (yielded ops a.tmps) = true then Oper.wp P o a w K Q else E := by
  have hw : Region.wanted o (yielded ops a.tmps) = true := by simp [Region.wanted, hg]
  rw [if_pos hw]
  unfold Oper.wp
  simp [execOp, hop, resolve, invoke, builtin, hd, hx, hr, Result.andThen]
  exact hK
theorem step_copy_runI {P : Program} {ops : Array Oper} {o : Oper} {a : Act} {w : World} {K : Act → World → Prop} {Q : Exit → Act → World → Prop} {E : Prop}
    (hg : o.guard = none) (d x : Operand) (dT sT : TypeId) (hop : o.op = Op.call { callee := Callee.builtin Builtin.copy, args := #[d, x], argTypes := #[dT, sT] })
    (v u : Value) (hd : a.eval d = v) (hx : a.eval x = u) {v' : Value} {w' : World} (hr : (Builtin.copy_ #[dT, sT] o.type #[v, u]).run P w = .ok v' w') (hK : K (a.put o.dst v') w') :
    if Region.wanted o (yielded ops a.tmps) = true then Oper.wp P o a w K Q else E := by
  have hw : Region.wanted o (yielded ops a.tmps) = true := by simp [Region.wanted, hg]
  rw [if_pos hw]
  unfold Oper.wp
  simp [execOp, hop, resolve, invoke, builtin, hd, hx, hr, Result.andThen]
  exact hK
def z51v : Value := .agg #[(.int .i64 0), (.int .i64 0)]
theorem zero51 (w : World) : (zeroValue 51).run Try.prog w = .ok z51v w := by
  obtain ⟨i, hi, h⟩ := Option.map_eq_some_iff.1 info51
  simp only [Prod.mk.injEq] at h
  simp [zeroValue, typeInfo, hi, h.1, z51v]
set_option maxHeartbeats 4000000 in
set_option maxRecDepth 100000 in
theorem delete_calls (g c base i : Nat) (ms : List S51) (w : World) (hi : i < ms.length) (hR : Kd.R k51 51 w base (fun _ => True) (.slice (some ⟨g, 0, none⟩) ms.length c) ms) :
    Calls Try.prog 51 #[.slice (some ⟨g, 0, none⟩) ms.length c, .int .i64 (i : Int), .int .i64 ((i : Int) + 1)] w fun e w' => e = .returned (.slice (some ⟨g, 0, none⟩) (ms.length - 1) c) ∧ Kd.R k51 51 w' base (fun _ => True) (.slice (some ⟨g, 0, none⟩) (ms.length - 1) c) (ms.eraseIdx i) ∧ w.grownBy w' (some g) := by
  have hu51 := Try.underlying51
  have hcap : ms.length ≤ c := (Kd.R_reads' hR).2.1
  have hmx : ms.length ≤ 9223372036854775807 := (Kd.R_reads' hR).2.2.2.1
  have hRd : Kd.R k51 51 w.drew base (fun _ => True) (.slice (some ⟨g, 0, none⟩) ms.length c) ms := Kd.R_drew hR
  obtain ⟨i0, hi0, hz⟩ := Option.map_eq_some_iff.1 info51
  obtain ⟨w1, hr, h1, h2⟩ := Kd.R_delete_run (P := Try.prog) k51 base 22 22 51 i0 Try.underlying22 hi0 (by simp only [Prod.mk.injEq] at hz; exact hz.2.1) hRd hi rfl (c - (i + 1))
  have hel : (ms.eraseIdx i).length = ms.length - 1 := by rw [List.length_eraseIdx]; split <;> omega
  have hp := R_pc h1
  obtain ⟨vs, hvl, hcl⟩ := run_clear_cells (P := Try.prog) w1 22 51 0 z51v Try.underlying22 zero51 (by decide) (by decide) g ((ms.length - 1) * 2) 1 (c - (ms.length - 1)) (by omega) (fun q hq => (own_cells hp _ (by have hq : q < 1 * 2 := hq; omega)).1) (fun q hq => (own_cells hp _ (by have hq : q < 1 * 2 := hq; omega)).2)
  have hvl' : vs.length = 1 * 2 := hvl
  obtain ⟨hS, hG⟩ := own_set (n' := ms.length - 1) (ys := ms.eraseIdx i) (o := (ms.length - 1) * 2) (vs := vs) hp (by omega) (by omega) (fun cur hc1 hc2 => by
    rw [hel] at hc2 ⊢
    rw [List.append_assoc, List.take_append_of_le_length (by rw [List.length_take]; omega), List.take_take, Nat.min_self]
    exact hc2) hel.symm
  have HE := Aside0.mk (pc_R (ok := fun _ => True) hS (fun _ _ => trivial))
  have HG : Aside0 (w.grownBy (w1.setCells g ((ms.length - 1) * 2) vs) (some g)) := ⟨⟨hG.os.trans h2.os, hG.tape.trans h2.tape, hG.output.trans h2.output, Nat.le_trans h2.size hG.size, fun k hk hne => (hG.block k (Nat.lt_of_lt_of_le hk h2.size) hne).trans (h2.block k hk hne)⟩⟩
  clear hS hG hvl hvl' hp h1 h2 hR hRd hi0 hz
  have e1 : IntKind.i64.wrap ((i : Int) + 1) = (i : Int) + 1 := IntWalk.i64_in _ (by omega)
  have b0 : (0 : Int) ≤ (i : Int) := by omega
  have b1 : (i : Int) ≤ (i : Int) + 1 := by omega
  have b2 : (i : Int) + 1 ≤ (ms.length : Int) := by omega
  have b3 : (ms.length : Int) ≤ (c : Int) := by omega
  have b4 : ((i : Int) + 1).toNat = i + 1 := by omega
  have b5 : ((i : Int) == (i : Int) + 1) = false := beq_eq_false_iff_ne.2 (by omega)
  have b6 : (((ms.length - 1 : Nat) : Int)) ≤ (ms.length : Int) := by omega
  have b7 : ms.length - (ms.length - 1) = 1 := by omega
  have b8 : ¬ (c = ms.length - 1) := by omega
  have b9 : (i : Int) ≤ (c : Int) := by omega
  have b10 : (0 : Int) ≤ (i : Int) + 1 := by omega
  by_cases hci : c = i + 1
  · rw [if_pos hci] at hr
    subst hci
    have hz0 : ms.length - (i + 1) = 0 := by omega
    rw [Nat.sub_self, hz0] at hr
    go_enter Try.func51, Try.ntmps51
    go_wp2
    go_region_law (refine step_append_runI rfl (.tmp 22) (.tmp 25) 22 22 rfl (.slice (some ⟨g, 0, none⟩) i (i + 1)) (.slice (some ⟨g, 0, none⟩) 0 0) (by simp [Act.eval, Act.put]) (by simp [Act.eval, Act.put]) hr ?_)
    go_wp2
    go_ret
    exact ⟨rfl, HE.out, HG.out⟩
  · rw [if_neg hci] at hr
    have hr2 : (Builtin.append_ #[22, 22] 22 #[.slice (some ⟨g, 0, none⟩) i c, .slice (some ⟨g, (i + 1) * 2, none⟩) (ms.length - (i + 1)) (c - (i + 1))]).run Try.prog w.drew = .ok (.slice (some ⟨g, 0, none⟩) (ms.length - 1) c) w1 := by
      have := hr
      rw [Option.map_some, add_at, Nat.zero_add] at this
      exact this
    clear hr
    go_enter Try.func51, Try.ntmps51
    go_wp2
    go_region_law (refine step_append_runI rfl (.tmp 22) (.tmp 25) 22 22 rfl (.slice (some ⟨g, 0, none⟩) i c) (.slice (some ⟨g, (i + 1) * 2, none⟩) (ms.length - (i + 1)) (c - (i + 1))) (by simp [Act.eval, Act.put]) (by simp [Act.eval, Act.put]) hr2 ?_)
    go_wp2
    go_ret
    exact ⟨rfl, HE.out, HG.out⟩
end Go.Proofs.Ytanlnfcjdjamaaa.P
