/- P.modelMemory_holds, part 14 of 37: the contracts of the Go functions that the law calls, its own walk, and its plain law, for every input that the statement speaks of. -/
import Derived.Test.YtanlnfcjdjamaaaMMe12
import Derived.Test.YtanlnfcjdjamaaaMMe6
import Derived.Laws.Externs
import Derived.Lib.AppendZerosOnto
import Derived.Lib.Overlaps
import Derived.Lib.SliceRun
import Derived.Test.YtanlnfcjdjamaaaMMe2
set_option linter.unusedVariables false
set_option linter.unusedSimpArgs false
/- E9 -/
namespace Go.Proofs.Ytanlnfcjdjamaaa.P
open Go.RowKit Go.Proofs.YtanlnfcjdjamaaaW.PrintWords Go.Proofs.YtanlnfcjdjamaaaW.PrintLast Go.Proofs.YtanlnfcjdjamaaaW.PrintMore
theorem run_copy_wide {P : Program} (w : World) (dT sT ty elem : TypeId) (g o dLen dCap : Nat) (a : Addr) (sLen sCap sz m : Nat) (cs : List Value) (hu : P.underlying dT = some (.slice elem)) (hs : (P.info? elem).map (·.size) = some sz) (hm : Nat.min sLen dLen = m)
    (hn : cs.length = m * sz) (hsrc : ∀ j v, cs[j]? = some v → w.cell? (a.add j) = some v) (hc : ∀ j, j < cs.length → (w.cell? ⟨g, o + j, none⟩).isSome = true) (hf : ∀ j, j < cs.length → w.frozen? ⟨g, o + j, none⟩ = false) (h1 : ∀ v ∈ cs, v.oneCell' = true) :
    (Builtin.copy_ #[dT, sT] ty #[.slice (some ⟨g, o, none⟩) dLen dCap, .slice (some a) sLen sCap]).run P w = .ok (goInt m) (w.setCells g o cs) := by
  have hl := run_loadCells_list (P := P) w a cs hsrc
  have hst := run_storeCells_cells (P := P) g o cs 0 w (by simpa using hc) (by simpa using hf) h1
  cases hq : P.info? elem with
  | none => simp [hq] at hs
  | some i =>
    have hi : i.size = sz := by simpa [hq] using hs
    simp [Builtin.copy_, run_underlying hu, Builtin.lenOf, Builtin.firstCells, sizeOf, typeInfo, hq, hi, hm, ← hn, hl, hst]
theorem size51 : (Try.prog.info? 51).map (·.size) = some 2 := by kernel_rfl
theorem insert_parts {ms : List S51} {i : Nat} {p : S51} (hi : i ≤ ms.length) : ms.insertIdx i p = ms.take i ++ p :: ms.drop i := by
  induction ms generalizing i with
  | nil => cases i <;> simp at hi ⊢
  | cons a r ih =>
    cases i with
    | zero => rfl
    | succ i => simp at hi; simp [ih hi]
theorem cell_heap {w w' : World} {k j : Nat} {v : Value} (h : w'.heap[k]? = w.heap[k]?) (hc : w.cell? ⟨k, j, none⟩ = some v) : w'.cell? ⟨k, j, none⟩ = some v := (World.cell?_of_block (a := ⟨k, j, none⟩) h).trans hc
theorem wpList_append_runI {P : Program} {w : World} {ops : Array Oper} {rest : List Oper} {o : Oper} {a : Act} {Q : Exit → Act → World → Prop} (hgd : o.guard = none) (s x : Operand) (t tn : TypeId)
    (ho : o.op = .call { callee := .builtin .append, args := #[s, x], argTypes := #[t, tn] }) (vs vx : Value) (hs : a.eval s = vs) (hx : a.eval x = vx) {v' : Value} {w' : World} (hr : (Builtin.append_ #[t, tn] o.type #[vs, vx]).run P w = .ok v' w') (h : wpList P ops Q rest (a.put o.dst v') w') : wpList P ops Q (o :: rest) a w := by
  refine wpList_plain hgd fun _ hK => ?_
  unfold Oper.wp execOp
  simp only [ho, resolve, invoke, builtin, Sem.run_bind, Sem.run_pure, Result.andThen_ok, List.map_toArray, List.map_cons, List.map_nil, hs, hx, hr]
  exact hK _ _ h
theorem pc_zeros (k : Nat) : (Builtin.zeroCells z51v.cells k).toList = pc (List.replicate k z51) :=
  pc_of_reps _ _ (Kd.reps_zeros (R := PC) (size := 2) (z := z51v) (z0 := z51) rfl (by decide) (show PC z51 z51v.cells.toList from rfl) k)
theorem own_over {base g n cap a : Nat} {e : TypeId} {w : World} {xs vl : List S51} (h : w.ownsRow base e 2 (.slice (some ⟨g, 0, none⟩) n cap) xs.length (pc xs)) (hl : a + vl.length ≤ xs.length) :
    (w.setCells g (a * 2) (pc vl)).ownsRow base e 2 (.slice (some ⟨g, 0, none⟩) n cap) (xs.take a ++ vl ++ xs.drop (a + vl.length)).length (pc (xs.take a ++ vl ++ xs.drop (a + vl.length))) ∧ w.grownBy (w.setCells g (a * 2) (pc vl)) (some g) := by
  have hyl : (xs.take a ++ vl ++ xs.drop (a + vl.length)).length = xs.length := by simp; omega
  have hn : n = xs.length ∧ xs.length ≤ cap := by
    rcases h.2 with ⟨hv, _⟩ | ⟨g', cap', cur, hv, hb, hh, hnc', hcm, hcs, ht⟩
    · cases hv
    · injection hv with _ hn hc
      omega
  refine own_set h (by omega) (by rw [pc_len]; omega) (fun cur hc1 hc2 => ?_) (by omega)
  have t1 : cur.take (a * 2) = pc (xs.take a) := by
    rw [← pc_take, ← hc2, List.take_take, Nat.min_eq_left (by omega)]
  have t2 : (cur.drop (a * 2 + (pc vl).length)).take ((xs.length - (a + vl.length)) * 2) = pc (xs.drop (a + vl.length)) := by
    rw [pc_len, show a * 2 + vl.length * 2 = (a + vl.length) * 2 by omega, ← pc_drop, ← hc2, List.drop_take, show xs.length * 2 - (a + vl.length) * 2 = (xs.length - (a + vl.length)) * 2 by omega]
  rw [hyl, t1, ← pc_app, List.take_append, List.take_of_length_le (by rw [pc_len]; simp; omega), pc_app (xs.take a ++ vl), ← t2]
  congr 2
  rw [pc_len, List.length_append, List.length_take, Nat.min_eq_left (by omega)]
  omega
def InsP (w : World) (base : Nat) (v : Value) (xs : List S51) (e : Ending) (w' : World) : Prop := ∃ v', e = .returned v' ∧ Kd.R k51 51 w' base (fun _ => True) v' xs ∧ w.grownBy w' v.ownBlock ∧ (v'.ownBlock = v.ownBlock ∨ ∃ b, v'.ownBlock = some b ∧ w.heap.size ≤ b)
set_option maxHeartbeats 4000000 in
set_option maxRecDepth 100000 in
theorem insert_end (A : Option Addr) (c base vb : Nat) (ms : List S51) (p : S51) (w : World) (hl : ms.length < 1000000000) (hR : Kd.R k51 51 w base (fun _ => True) (.slice A ms.length c) ms) (hbw : base ≤ w.heap.size) (hv : Kd.C k51 w (some ⟨vb, 0, none⟩) 1 [p]) :
    Calls Try.prog 52 #[.slice A ms.length c, .int .i64 (ms.length : Int), .slice (some ⟨vb, 0, none⟩) 1 1] w fun e w' => InsP w base (.slice A ms.length c) (ms.insertIdx ms.length p) e w' := by
  have hu51 := Try.underlying51
  have hcap : ms.length ≤ c := (Kd.R_reads' hR).2.1
  have hcapi : (ms.length : Int) ≤ (c : Int) := by omega
  by_cases hcn : c = ms.length
  · subst hcn
    have HR := Aside0.mk hR
    have HV := Aside0.mk hv
    clear hR hv
    go_enter Try.func52, Try.ntmps52
    go_wp2_with (first
      | (at_builtin; refine Kd.R_append_rows k51 (w0 := w) base rfl (.tmp 23) (.tmp 24) 22 51 (.agg #[(.int .i64 0), (.int .i64 0)]) 16 rfl Try.underlying22 info51 rfl (by decide) (by omega) (.slice A ms.length ms.length) ms [p] _ _ _ (fun _ => True) (fun _ => False) rfl rfl ?aO ?aR (fun _ _ h => h) (fun _ h => h.elim) ?aF ?aB ?aS ?aL ?_; (case aR => exact HV.out); (case aB => exact Below.refl _ _); (case aF => exact (fun _ _ => trivial)); (case aO => exact HR.out); (case aS => exact hbw); (case aL => show (ms.length + 1) * 16 ≤ 140737488355328; omega); intro v2 w2 ho2 hb2 hg2 hat2; have HO2 := Aside0.mk ho2; have HG2 := Aside0.mk hg2; have HA2 := Aside0.mk hat2; clear ho2 hb2 hg2 hat2))
    go_ret
    exact ⟨_, rfl, by rw [insert_parts (Nat.le_refl _), List.take_length, List.drop_length]; exact HO2.out, HG2.out, HA2.out⟩
  · have HR := Aside0.mk hR
    have HV := Aside0.mk hv
    clear hR hv
    go_enter Try.func52, Try.ntmps52
    go_wp2_with (first
      | (at_builtin; refine Kd.R_append_rows k51 (w0 := w) base rfl (.tmp 23) (.tmp 24) 22 51 (.agg #[(.int .i64 0), (.int .i64 0)]) 16 rfl Try.underlying22 info51 rfl (by decide) (by omega) (.slice A ms.length c) ms [p] _ _ _ (fun _ => True) (fun _ => False) rfl rfl ?aO ?aR (fun _ _ h => h) (fun _ h => h.elim) ?aF ?aB ?aS ?aL ?_; (case aR => exact HV.out); (case aB => exact Below.refl _ _); (case aF => exact (fun _ _ => trivial)); (case aO => exact HR.out); (case aS => exact hbw); (case aL => show (ms.length + 1) * 16 ≤ 140737488355328; omega); intro v2 w2 ho2 hb2 hg2 hat2; have HO2 := Aside0.mk ho2; have HG2 := Aside0.mk hg2; have HA2 := Aside0.mk hat2; clear ho2 hb2 hg2 hat2))
    go_ret
    exact ⟨_, rfl, by rw [insert_parts (Nat.le_refl _), List.take_length, List.drop_length]; exact HO2.out, HG2.out, HA2.out⟩
set_option maxHeartbeats 4000000 in
set_option maxRecDepth 100000 in
theorem insert_grow (g base i vb : Nat) (ms : List S51) (p : S51) (w : World) (hi : i < ms.length) (hl : ms.length < 1000000000) (hR : Kd.R k51 51 w base (fun _ => True) (.slice (some ⟨g, 0, none⟩) ms.length ms.length) ms) (hbw : base ≤ w.heap.size) (hv : Kd.C k51 w (some ⟨vb, 0, none⟩) 1 [p]) :
    Calls Try.prog 52 #[.slice (some ⟨g, 0, none⟩) ms.length ms.length, .int .i64 (i : Int), .slice (some ⟨vb, 0, none⟩) 1 1] w fun e w' => InsP w base (.slice (some ⟨g, 0, none⟩) ms.length ms.length) (ms.insertIdx i p) e w' := by
  have hu51 := Try.underlying51
  obtain ⟨n, hn⟩ : ∃ n, n = ms.length := ⟨_, rfl⟩
  have hp := R_pc hR
  have hgw : g < w.heap.size := Kd.R_lt hR g (by simp [Value.ownBlock])
  have hgN : g ≠ w.heap.size := by omega
  have hvw : vb < w.heap.size := World.block_lt_of_cell? w ⟨vb, 0, none⟩ (C_pc (ad := ⟨vb, 0, none⟩) hv (fun _ => rfl) 0 _ rfl)
  have hcv := C_pc (ad := ⟨vb, 0, none⟩) hv (fun _ => rfl)
  have hca : ∀ q u, (pc ms)[q]? = some u → w.cell? ⟨g, q, none⟩ = some u := fun q u hu => own_at hp q u hu
  obtain ⟨i0, hi0, hz⟩ := Option.map_eq_some_iff.1 info51
  simp only [Prod.mk.injEq] at hz
  obtain ⟨hz1, hz2, hz3⟩ := hz
  have hold : (Builtin.firstCells i0.size i (.slice (some ⟨g, 0, none⟩) i n)).run Try.prog w.drew = .ok (pc (ms.take i)).toArray w.drew := by
    rw [hz2]
    exact run_firstCells_some w.drew 2 i ⟨g, 0, none⟩ i n (pc (ms.take i)) (by rw [pc_len, List.length_take]; omega) (fun j v hj => by
      rw [add_at, Nat.zero_add]
      rw [← pc_take, List.getElem?_take] at hj
      split at hj
      · exact hca j v hj
      · cases hj)
  have hrz := Lib.run_append_grow_zeros (P := Try.prog) w 22 3 22 51 i0 z51v .i64 .i64 Try.underlying22 Try.underlying3 hi0 hz1 (some ⟨g, 0, none⟩) i n (pc (ms.take i)) hold (n + 1 - i) (by omega) (by omega) (by omega) (by omega) (by rw [hz3]; omega) (by rw [hz3]; exact growslice_fits (by omega) (by omega))
  have hik : i + (n + 1 - i) = n + 1 := by omega
  rw [hik] at hrz
  have hG1 := grownCap_ge w (n + 1) n 51
  have hG2 := grownCap_le_maxLen w (n + 1) n 51 (by unfold maxLen; omega)
  obtain ⟨G, hG⟩ : ∃ G, G = grownCap w (n + 1) n 51 := ⟨_, rfl⟩
  rw [← hG] at hrz hG1 hG2
  obtain ⟨xs, hxs⟩ : ∃ xs, xs = ms.take i ++ List.replicate (n + 1 - i) z51 := ⟨_, rfl⟩
  have hxl : xs.length = n + 1 := by rw [hxs]; simp; omega
  obtain ⟨ROW, hROW⟩ : ∃ ROW : Array Value, ROW = (pc (ms.take i)).toArray ++ Builtin.zeroCells z51v.cells (n + 1 - i) ++ Builtin.zeroCells z51v.cells (G - (n + 1)) := ⟨_, rfl⟩
  rw [← hROW] at hrz
  have hRl : ROW.toList = pc xs ++ pc (List.replicate (G - (n + 1)) z51) := by
    rw [hROW, hxs, pc_app, ← pc_zeros, ← pc_zeros]
    simp
  have hRs : ROW.size = G * 2 := by
    rw [← Array.length_toList, hRl, List.length_append, pc_len, pc_len, hxl, List.length_replicate]
    omega
  obtain ⟨W1, hW1⟩ : ∃ W1, W1 = w.drew.alloc (.cells ROW 51) := ⟨_, rfl⟩
  have hW1s : w.heap.size < W1.heap.size := by rw [hW1]; exact alloc_lt w.drew _
  have hO1 : W1.ownsRow base 51 2 (.slice (some ⟨w.heap.size, 0, none⟩) (n + 1) G) xs.length (pc xs) :=
    ⟨pc_len xs, .inr ⟨w.heap.size, G, ROW, by rw [hxl], hbw, by rw [hW1]; exact blk_new w.drew _, by omega, hG2, hRs, by rw [hRl, List.take_append_of_le_length (by rw [pc_len]; exact Nat.le_refl _), List.take_of_length_le (by rw [pc_len]; exact Nat.le_refl _)]⟩⟩
  have hA1 : ∀ k, k < w.heap.size → W1.heap[k]? = w.heap[k]? := fun k hk => by rw [hW1]; exact Below.heap_alloc w.drew _ k hk
  obtain ⟨hO2, hg2⟩ := own_over (a := i) (vl := [p]) hO1 (by rw [hxl]; simp; omega)
  obtain ⟨W2, hW2⟩ : ∃ W2, W2 = W1.setCells w.heap.size (i * 2) (pc [p]) := ⟨_, rfl⟩
  rw [← hW2] at hO2 hg2
  obtain ⟨ys, hys⟩ : ∃ ys, ys = xs.take i ++ [p] ++ xs.drop (i + 1) := ⟨_, rfl⟩
  have hyl : ys.length = n + 1 := by rw [hys]; simp; omega
  have hyt : ys.take (i + 1) = ms.take i ++ [p] := by
    rw [hys, List.take_append_of_le_length (by simp; omega), List.take_of_length_le (by simp; omega), hxs, List.take_append_of_le_length (by simp; omega), List.take_take, Nat.min_self]
  have hO2d : W2.drew.ownsRow base 51 2 (.slice (some ⟨w.heap.size, 0, none⟩) (n + 1) G) ys.length (pc ys) := by rw [hys]; exact hO2
  clear hys
  obtain ⟨hO3, hg3⟩ := own_over (a := i + 1) (vl := ms.drop i) hO2d (by rw [hyl]; simp; omega)
  have hfin : ys.take (i + 1) ++ ms.drop i ++ ys.drop (i + 1 + (ms.drop i).length) = ms.insertIdx i p := by
    have hd0 : ys.drop (i + 1 + (ms.drop i).length) = [] := List.drop_eq_nil_of_le (by rw [hyl]; simp; omega)
    rw [hd0, List.append_nil, hyt, insert_parts (by omega)]
    simp
  rw [hfin] at hO3
  have hc1 : (Builtin.copy_ #[22, 22] 3 #[.slice (some ⟨w.heap.size, i * 2, none⟩) (n + 1 - i) (G - i), .slice (some ⟨vb, 0, none⟩) 1 1]).run Try.prog W1 = .ok (goInt (1 : Nat)) W2 := by
    rw [hW2]
    refine run_copy_wide W1 22 22 3 51 w.heap.size (i * 2) (n + 1 - i) (G - i) ⟨vb, 0, none⟩ 1 1 2 1 (pc [p]) Try.underlying22 size51 (by simp only [Nat.min_def]; split <;> omega) (pc_len _) ?_ (fun j hj => (own_cells hO1 _ (by rw [pc_len] at hj; simp at hj; omega)).1) (fun j hj => (own_cells hO1 _ (by rw [pc_len] at hj; simp at hj; omega)).2) (pc_one _)
    intro j u hu
    have := hcv j u hu
    rw [add_at, Nat.zero_add] at this ⊢
    exact cell_heap (hA1 vb hvw) this
  have hA2 : ∀ k, k < w.heap.size → W2.heap[k]? = w.heap[k]? := fun k hk => by
    rw [hg2.block k (Nat.lt_trans hk hW1s) (by simp; omega)]
    exact hA1 k hk
  have hdl : (ms.drop i).length = n - i := by simp; omega
  have hc2 : (Builtin.copy_ #[22, 22] 3 #[.slice (some ⟨w.heap.size, (i + 1) * 2, none⟩) (n + 1 - (i + 1)) (G - (i + 1)), .slice (some ⟨g, i * 2, none⟩) (n - i) (n - i)]).run Try.prog W2.drew = .ok (goInt (n - i : Nat)) (W2.drew.setCells w.heap.size ((i + 1) * 2) (pc (ms.drop i))) := by
    refine run_copy_wide W2.drew 22 22 3 51 w.heap.size ((i + 1) * 2) (n + 1 - (i + 1)) (G - (i + 1)) ⟨g, i * 2, none⟩ (n - i) (n - i) 2 (n - i) (pc (ms.drop i)) Try.underlying22 size51 (by simp only [Nat.min_def]; split <;> omega) (by rw [pc_len, hdl]) ?_ (fun j hj => (own_cells hO2 _ (by rw [pc_len, hdl] at hj; omega)).1) (fun j hj => (own_cells hO2 _ (by rw [pc_len, hdl] at hj; omega)).2) (pc_one _)
    intro j u hu
    rw [← pc_drop, List.getElem?_drop] at hu
    have := hca _ _ hu
    rw [add_at]
    exact cell_heap (hA2 g hgw) this
  have HO3 := Aside0.mk (pc_R (ok := fun _ => True) hO3 (fun _ _ => trivial))
  have HG3 : Aside0 (w.grownBy (W2.drew.setCells w.heap.size ((i + 1) * 2) (pc (ms.drop i))) (some g)) := ⟨⟨hg3.os.trans (hg2.os.trans (by rw [hW1]; rfl)), hg3.tape.trans (hg2.tape.trans (by rw [hW1]; rfl)), hg3.output.trans (hg2.output.trans (by rw [hW1]; rfl)), Nat.le_trans (Nat.le_of_lt hW1s) (Nat.le_trans hg2.size hg3.size), fun k hk _ => (hg3.block k (Nat.lt_of_lt_of_le hk (Nat.le_trans (Nat.le_of_lt hW1s) hg2.size)) (by simp; omega)).trans (hA2 k hk)⟩⟩
  rw [← hW1] at hrz
  subst hn
  have hkk : ((ms.length + 1 - i : Nat) : Int) = (ms.length : Int) + 1 - (i : Int) := by omega
  rw [hkk] at hrz
  have e1 : IntKind.i64.wrap ((ms.length : Int) + 1) = (ms.length : Int) + 1 := IntWalk.i64_in _ (by omega)
  have e2 : IntKind.i64.wrap ((ms.length : Int) + 1 - (i : Int)) = (ms.length : Int) + 1 - (i : Int) := IntWalk.i64_in _ (by omega)
  have e3 : IntKind.i64.wrap ((i : Int) + 1) = (i : Int) + 1 := IntWalk.i64_in _ (by omega)
  have b0 : (0 : Int) ≤ (i : Int) := by omega
  have b1 : (i : Int) ≤ (ms.length : Int) := by omega
  have b2 : ((i : Int) == (ms.length : Int)) = false := beq_eq_false_iff_ne.2 (by omega)
  have b3 : (0 : Int) ≤ (i : Int) + 1 := by omega
  have b4 : ((i : Int) + 1).toNat = i + 1 := by omega
  have b5 : (i : Int) + 1 ≤ (ms.length : Int) + 1 := by omega
  have b6 : ¬ (G = i) := by omega
  have b7 : ¬ (G = i + 1) := by omega
  have b8 : ¬ (ms.length = i) := by omega
  have b9 : (i : Int) ≤ (ms.length : Int) + 1 := by omega
  have b10 : decide ((ms.length : Int) < (ms.length : Int) + 1) = true := decide_eq_true (by omega)
  clear hW1 hW2 hW1s hkk hik hold hG hRl hxs hxl hROW hRs hO1 hA1 hO2 hg2 hyl hyt hO2d hO3 hg3 hfin hA2 hca hcv hz1 hz2 hz3 hi0 hp hR hv hG1 hG2 hdl
  go_enter Try.func52, Try.ntmps52
  go_wp2_with (first | (at_builtin; refine wpList_append_runI rfl (.tmp 34) (.tmp 39) 22 3 rfl _ _ rfl rfl hrz ?_))
  go_region_law (refine step_copy_runI rfl (.tmp 50) (.tmp 53) 22 22 rfl (.slice (some ⟨w.heap.size, (i + 1) * 2, none⟩) (ms.length + 1 - (i + 1)) (G - (i + 1))) (.slice (some ⟨g, i * 2, none⟩) (ms.length - i) (ms.length - i)) (by simp [Act.eval, Act.put]) (by simp [Act.eval, Act.put]) hc2 ?_)
  go_wp2
  go_ret
  exact ⟨_, rfl, HO3.out, HG3.out, .inr ⟨w.heap.size, rfl, Nat.le_refl _⟩⟩
theorem shape_blk {w : World} {g : Nat} {cs : Array Value} {t : TypeId} (h : w.heap[g]? = some (.cells cs t (0, 0))) : w.shape? g = some (t, cs.size) := by unfold World.shape?; rw [h]
set_option maxHeartbeats 4000000 in
set_option maxRecDepth 100000 in
theorem insert_room (g c base i vb : Nat) (ms : List S51) (p : S51) (w : World) (hi : i < ms.length) (hl : ms.length < 1000000000) (hc : ms.length < c) (hR : Kd.R k51 51 w base (fun _ => True) (.slice (some ⟨g, 0, none⟩) ms.length c) ms) (hv : w.heap[vb]? = some (.cells #[.int .i64 p.f0, .int .i64 p.f1] 51 (0, 0))) (hne : vb ≠ g) :
    Calls Try.prog 52 #[.slice (some ⟨g, 0, none⟩) ms.length c, .int .i64 (i : Int), .slice (some ⟨vb, 0, none⟩) 1 1] w fun e w' => InsP w base (.slice (some ⟨g, 0, none⟩) ms.length c) (ms.insertIdx i p) e w' := by
  have hu51 := Try.underlying51
  obtain ⟨n, hn⟩ : ∃ n, n = ms.length := ⟨_, rfl⟩
  have hp := R_pc hR
  have hgw : g < w.heap.size := Kd.R_lt hR g (by simp [Value.ownBlock])
  have hc63 : c ≤ maxLen := by
    rcases hp.2 with ⟨hv, _⟩ | ⟨g', cap', cur, hv, hb, hh, hnc', hcm, hcs, ht⟩
    · cases hv
    · injection hv with _ _ hcc
      omega
  obtain ⟨cur, hcur, hcz⟩ : ∃ cur, w.heap[g]? = some (.cells cur 51 (0, 0)) ∧ cur.size ≠ 0 := by
    rcases hp.2 with ⟨hv, _⟩ | ⟨g', cap', cur, hv, hb, hh, hnc', hcm, hcs, ht⟩
    · cases hv
    · injection hv with ha _ hcc
      injection ha with ha
      injection ha with ha
      subst ha
      exact ⟨cur, hh, by omega⟩
  have hov : ∀ lb cb, (callFunc 57 #[.slice (some ⟨vb, 0, none⟩) 1 1, .slice (some ⟨g, (i + 1) * 2, none⟩) lb cb]).run Try.prog w = .ok (.value (.bool false)) w := fun lb cb => by
    rw [run_callFunc_extern Try.func57 (by kernel_rfl) (by kernel_rfl) (by kernel_rfl) (e := Extern.SlicesOverlaps.overlaps #[22, 22] #[4]) (by kernel_rfl),
      Lib.run_overlaps_apart w 22 4 51 Try.underlying22 2 (fun w => by
        obtain ⟨i0, hi0, hz⟩ := Option.map_eq_some_iff.1 info51
        simp only [Prod.mk.injEq] at hz
        simp [sizeOf, typeInfo, hi0, hz.2.1]) ⟨vb, 0, none⟩ ⟨g, (i + 1) * 2, none⟩ 1 1 lb cb hne 51 51 _ _ (shape_blk hv) (shape_blk hcur) hcz (blk_frozen hv _) (blk_frozen hv _)]
    rfl
  have hcv : ∀ j u, (pc [p])[j]? = some u → w.cell? ⟨vb, j, none⟩ = some u := fun j u hu => by
    rw [blk_cell hv, ← hu, ← Array.getElem?_toList]
    rfl
  have hca : ∀ q u, (pc ms)[q]? = some u → w.cell? ⟨g, q, none⟩ = some u := fun q u hu => own_at hp q u hu
  have hdl : (ms.drop i).length = n - i := by simp; omega
  have hpd : w.drew.ownsRow base 51 2 (.slice (some ⟨g, 0, none⟩) ms.length c) ms.length (pc ms) := hp
  obtain ⟨hO1, hg1⟩ := own_set (n' := n + 1) (ys := ms.take (i + 1) ++ ms.drop i) (o := (i + 1) * 2) (vs := pc (ms.drop i)) hpd (by simp; omega) (by rw [pc_len, hdl]; omega) (fun cur hc1 hc2 => by
    have t1 : cur.take ((i + 1) * 2) = pc (ms.take (i + 1)) := by rw [← pc_take, ← hc2, List.take_take, Nat.min_eq_left (by omega)]
    rw [t1, ← pc_app, List.take_append_of_le_length (by rw [pc_len]; exact Nat.le_refl _), List.take_of_length_le (by rw [pc_len]; exact Nat.le_refl _)]) (by simp; omega)
  obtain ⟨W1, hW1⟩ : ∃ W1, W1 = w.drew.setCells g ((i + 1) * 2) (pc (ms.drop i)) := ⟨_, rfl⟩
  rw [← hW1] at hO1 hg1
  have hyl : (ms.take (i + 1) ++ ms.drop i).length = n + 1 := by simp; omega
  obtain ⟨hO2, hg2⟩ := own_over (a := i) (vl := [p]) hO1 (by rw [hyl]; simp; omega)
  have hfin : (ms.take (i + 1) ++ ms.drop i).take i ++ [p] ++ (ms.take (i + 1) ++ ms.drop i).drop (i + [p].length) = ms.insertIdx i p := by
    have h1 : (ms.take (i + 1) ++ ms.drop i).take i = ms.take i := by rw [List.take_append_of_le_length (by simp; omega), List.take_take, Nat.min_eq_left (by omega)]
    have h2 : (ms.take (i + 1) ++ ms.drop i).drop (i + 1) = ms.drop i := List.drop_left' (by simp; omega)
    rw [h1, show i + [p].length = i + 1 from rfl, h2, insert_parts (by omega)]
    simp
  rw [hfin] at hO2
  have hc1 : (Builtin.copy_ #[22, 22] 3 #[.slice (some ⟨g, (i + 1) * 2, none⟩) (n + 1 - (i + 1)) (c - (i + 1)), .slice (some ⟨g, i * 2, none⟩) (n + 1 - i) (c - i)]).run Try.prog w.drew = .ok (goInt (n - i : Nat)) W1 := by
    rw [hW1]
    refine run_copy_wide w.drew 22 22 3 51 g ((i + 1) * 2) (n + 1 - (i + 1)) (c - (i + 1)) ⟨g, i * 2, none⟩ (n + 1 - i) (c - i) 2 (n - i) (pc (ms.drop i)) Try.underlying22 size51 (by simp only [Nat.min_def]; split <;> omega) (by rw [pc_len, hdl]) ?_ (fun j hj => (own_cells hp _ (by rw [pc_len, hdl] at hj; omega)).1) (fun j hj => (own_cells hp _ (by rw [pc_len, hdl] at hj; omega)).2) (pc_one _)
    intro j u hu
    rw [← pc_drop, List.getElem?_drop] at hu
    rw [add_at]
    exact hca _ _ hu
  have hvw : vb < w.heap.size := World.block_lt_of_cell? w ⟨vb, 0, none⟩ (hcv 0 _ rfl)
  have hc2 : (Builtin.copy_ #[22, 22] 3 #[.slice (some ⟨g, i * 2, none⟩) (n + 1 - i) (c - i), .slice (some ⟨vb, 0, none⟩) 1 1]).run Try.prog W1 = .ok (goInt (1 : Nat)) (W1.setCells g (i * 2) (pc [p])) := by
    refine run_copy_wide W1 22 22 3 51 g (i * 2) (n + 1 - i) (c - i) ⟨vb, 0, none⟩ 1 1 2 1 (pc [p]) Try.underlying22 size51 (by simp only [Nat.min_def]; split <;> omega) (pc_len _) ?_ (fun j hj => (own_cells hO1 _ (by rw [pc_len] at hj; simp at hj; omega)).1) (fun j hj => (own_cells hO1 _ (by rw [pc_len] at hj; simp at hj; omega)).2) (pc_one _)
    intro j u hu
    have := hcv j u hu
    rw [add_at, Nat.zero_add]
    exact cell_heap (hg1.block vb hvw (by simp; omega)) this
  have HO2 := Aside0.mk (pc_R (ok := fun _ => True) hO2 (fun _ _ => trivial))
  have HG2 : Aside0 (w.grownBy (W1.setCells g (i * 2) (pc [p])) (some g)) := ⟨⟨hg2.os.trans hg1.os, hg2.tape.trans hg1.tape, hg2.output.trans hg1.output, Nat.le_trans hg1.size hg2.size, fun k hk hkn => (hg2.block k (Nat.lt_of_lt_of_le hk hg1.size) hkn).trans (hg1.block k hk hkn)⟩⟩
  subst hn
  have e1 : IntKind.i64.wrap ((ms.length : Int) + 1) = (ms.length : Int) + 1 := IntWalk.i64_in _ (by omega)
  have e3 : IntKind.i64.wrap ((i : Int) + 1) = (i : Int) + 1 := IntWalk.i64_in _ (by omega)
  have b0 : (0 : Int) ≤ (i : Int) := by omega
  have b1 : (i : Int) ≤ (ms.length : Int) := by omega
  have b2 : ((i : Int) == (ms.length : Int)) = false := beq_eq_false_iff_ne.2 (by omega)
  have b3 : (0 : Int) ≤ (i : Int) + 1 := by omega
  have b4 : ((i : Int) + 1).toNat = i + 1 := by omega
  have b5 : (i : Int) + 1 ≤ (ms.length : Int) + 1 := by omega
  have b7 : ¬ (c = i + 1) := by omega
  have b8 : ¬ (c = i) := by omega
  have b9 : (i : Int) ≤ (ms.length : Int) + 1 := by omega
  have b10 : decide ((c : Int) < (ms.length : Int) + 1) = false := decide_eq_false (by omega)
  have b11 : (ms.length : Int) + 1 ≤ (c : Int) := by omega
  have b12 : (0 : Int) ≤ (ms.length : Int) + 1 := by omega
  have b13 : ((ms.length : Int) + 1).toNat = ms.length + 1 := by omega
  have b14 : (c : Int) ≤ 9223372036854775807 := by unfold maxLen at hc63; omega
  clear hW1 hdl hpd hO1 hg1 hyl hO2 hg2 hfin hca hcv hp hR hv hcur hcz hc63
  go_enter Try.func52, Try.ntmps52
  go_wp2_with (simp only [hov])
  go_region_law (refine step_copy_runI rfl (.tmp 73) (.tmp 76) 22 22 rfl (.slice (some ⟨g, (i + 1) * 2, none⟩) (ms.length + 1 - (i + 1)) (c - (i + 1))) (.slice (some ⟨g, i * 2, none⟩) (ms.length + 1 - i) (c - i)) (by simp [Act.eval, Act.put]) (by simp [Act.eval, Act.put]) hc1 ?_)
  go_wp2
  go_ret
  exact ⟨_, rfl, HO2.out, HG2.out, .inl rfl⟩
theorem insert_calls (A : Option Addr) (c base i vb : Nat) (ms : List S51) (p : S51) (w : World) (hi : i ≤ ms.length) (hl : ms.length < 1000000000) (hR : Kd.R k51 51 w base (fun _ => True) (.slice A ms.length c) ms) (hbw : base ≤ w.heap.size) (hv : w.heap[vb]? = some (.cells #[.int .i64 p.f0, .int .i64 p.f1] 51 (0, 0))) (hne : some vb ≠ (Value.slice A ms.length c).ownBlock) :
    Calls Try.prog 52 #[.slice A ms.length c, .int .i64 (i : Int), .slice (some ⟨vb, 0, none⟩) 1 1] w fun e w' => InsP w base (.slice A ms.length c) (ms.insertIdx i p) e w' := by
  have hC : Kd.C k51 w (some ⟨vb, 0, none⟩) 1 [p] := ⟨rfl, by omega, fun _ => ⟨⟨vb, 0, none⟩, rfl, fun j q hj => by
    match j, hj with
    | 0, hj =>
      simp at hj
      subst hj
      refine ⟨_, rfl, k51_mk w p, fun t u hu => ?_⟩
      rw [add_at, blk_cell hv, ← Array.getElem?_toList, ← hu]
      congr 1
      show 0 + (0 * 2 + t) = t
      omega
    | j + 1, hj => simp at hj⟩⟩
  by_cases hin : i = ms.length
  · subst hin
    exact insert_end A c base vb ms p w hl hR hbw hC
  obtain ⟨g, cg, ea, -⟩ := Kd.R_form hR (by omega)
  injection ea with ea _ _
  subst ea
  have hcap := (Kd.R_reads' hR).2.1
  by_cases hcn : c = ms.length
  · subst hcn
    exact insert_grow g base i vb ms p w (by omega) hl hR hbw hC
  · exact insert_room g c base i vb ms p w (by omega) hl (by omega) hR hv (fun h => hne (by rw [h]; rfl))
end Go.Proofs.Ytanlnfcjdjamaaa.P
