/- P.modelMemory_holds, part 20 of 37: the contracts of the Go functions that the law calls, its own walk, and its plain law, for every input that the statement speaks of. -/
import Derived.Test.YtanlnfcjdjamaaaMMe18
import Derived.Test.YtanlnfcjdjamaaaMMe15
set_option linter.unusedVariables false
set_option linter.unusedSimpArgs false
/- E6 -/
namespace Go.Proofs.Ytanlnfcjdjamaaa.P
open Go.RowKit Go.Proofs.YtanlnfcjdjamaaaW.PrintWords Go.Proofs.YtanlnfcjdjamaaaW.PrintLast Go.Proofs.YtanlnfcjdjamaaaW.PrintMore
def doOf (q : List S51 × List S27 × Int) : List S51 × Bool × Int × Int × List S51 × Int :=
  if q.2.2 = 0 then (q.1, (J27 q.2.1 0).f0, (J27 q.2.1 0).f1, (J27 q.2.1 0).f2, (J27 q.2.1 0).f3, 0) else ([], false, 0, 0, [], q.2.2)
def model_Do.f (l0 : List S51) (a1_0 a1_1 a1_2 a1_3 : Int) : Option (List S51 × Bool × Int × Int × List S51 × Int) :=
  if l0.length < 100000000 then some (doOf (runF l0 [⟨a1_0, a1_1, a1_2, a1_3⟩])) else none
theorem run_len (l1 : List S25) : ∀ l0, (runL l0 l1).2.length = l1.length := by
  induction l1 with
  | nil => intro l0; rfl
  | cons o t ih => intro l0; simp [runL, ih]
set_option maxHeartbeats 4000000 in
set_option maxRecDepth 100000 in
theorem model_Do.calls (A0 : Option Addr) (c0 : Nat) (l0 : List (S51)) (a1_0 : Int) (a1_1 : Int) (a1_2 : Int) (a1_3 : Int) (r1 : List (S51)) (r2 : Bool) (r3 : Int) (r4 : Int) (r5 : List (S51)) (r6 : Int) (w : World) (hr0 : Kd.C k51 w A0 l0.length l0) (hc0 : l0.length ≤ c0) (h : model_Do.f l0 a1_0 a1_1 a1_2 a1_3 = some (r1, r2, r3, r4, r5, r6)) :
    Calls Try.prog 9 #[.slice A0 l0.length c0, .agg #[.int .i64 a1_0, .int .i64 a1_1, .int .i64 a1_2, .int .i64 a1_3]] w fun e w' => ∃ v0_ v4_ : Value, e = .returned (.tuple #[v0_, .agg #[.bool r2, .int .i64 r3, .int .i64 r4, v4_], .int .i64 r6]) ∧ Kd.R k51 51 w' w.heap.size (fun k_ => some k_ ≠ (v4_ : Value).ownBlock) v0_ r1 ∧ Kd.R k51 51 w' w.heap.size (fun k_ => some k_ ≠ (v0_ : Value).ownBlock) v4_ r5 ∧ Below w.heap.size w w' := by
  have hu25 := Try.underlying25
  have hu27 := Try.underlying27
  have hu51 := Try.underlying51
  obtain ⟨o, ho⟩ : ∃ o : S25, o = ⟨a1_0, a1_1, a1_2, a1_3⟩ := ⟨_, rfl⟩
  unfold model_Do.f at h
  rw [← ho] at h
  obtain rfl : a1_0 = o.f0 := by rw [ho]
  obtain rfl : a1_1 = o.f1 := by rw [ho]
  obtain rfl : a1_2 = o.f2 := by rw [ho]
  obtain rfl : a1_3 = o.f3 := by rw [ho]
  clear ho
  split at h
  rotate_left
  · simp at h
  rename_i hl
  have h := Option.some.inj h
  obtain ⟨q, hq⟩ : ∃ q, q = runF l0 [o] := ⟨_, rfl⟩
  rw [← hq] at h
  obtain ⟨m, rs, e6⟩ := q
  have HRN : Aside0 (model_Run.f l0 [o] = some (m, rs, e6)) := ⟨by unfold model_Run.f; rw [if_pos ⟨hl, by simp⟩, hq]⟩
  have hlen : e6 = 0 → rs.length = 1 := by
    intro he
    unfold runF at hq
    split at hq
    · cases hq; cases he
    · split at hq
      · cases hq; cases he
      · cases hq; exact run_len [o] l0
  have HLEN := Aside0.mk hlen
  clear hq hlen
  unfold doOf at h
  obtain ⟨Wa, hWa⟩ : ∃ Wa, Wa = (w.alloc (.cells #[.int .i64 o.f0, .int .i64 o.f1, .int .i64 o.f2, .int .i64 o.f3] 25)).alloc (.cells #[.bool false, .int .i64 0, .int .i64 0, .slice none 0 0] 27) := ⟨_, rfl⟩
  have hD := DoW.start w o
  rw [← hWa] at hD
  have hBa : Below w.heap.size w Wa := by rw [hWa]; exact below_alloc (below_alloc (Below.refl _ _) _) _
  have hsz : Wa.heap.size = w.heap.size + 2 := by rw [hWa]; simp [World.alloc_eq]
  have hb3 : (Wa.alloc (.cells #[.int .i64 o.f0, .int .i64 o.f1, .int .i64 o.f2, .int .i64 o.f3] 25)).heap[w.heap.size + 2]? = some (.cells #[.int .i64 o.f0, .int .i64 o.f1, .int .i64 o.f2, .int .i64 o.f3] 25 (0, 0)) := by rw [← hsz]; exact blk_new _ _
  have hC1 : Kd.C k25 (Wa.alloc (.cells #[.int .i64 o.f0, .int .i64 o.f1, .int .i64 o.f2, .int .i64 o.f3] 25)) (some ⟨w.heap.size + 2, 0, none⟩) 1 [o] := ⟨rfl, by omega, fun _ => ⟨⟨w.heap.size + 2, 0, none⟩, rfl, fun j p hj => by
    match j, hj with
    | 0, hj =>
      simp at hj
      subst hj
      refine ⟨_, rfl, k25_mk _ o, fun t u hu => ?_⟩
      rw [add_at, blk_cell hb3, ← Array.getElem?_toList, ← hu]
      congr 1
      show 0 + (0 * 4 + t) = t
      omega
    | j + 1, hj => simp at hj⟩⟩
  have HC1 := Aside0.mk hC1
  have HD := Aside0.mk (hD.next (grown_below (below_alloc (Below.refl _ _) (.cells #[.int .i64 o.f0, .int .i64 o.f1, .int .i64 o.f2, .int .i64 o.f3] 25)) none) (by simp) (by simp))
  have HBA := Aside0.mk (below_alloc hBa (.cells #[.int .i64 o.f0, .int .i64 o.f1, .int .i64 o.f2, .int .i64 o.f3] 25))
  have HWA := Aside0.mk hWa
  clear hD hBa hb3 hC1 hsz hWa
  have HQ := Aside0.mk h
  clear h
  by_cases he : e6 = 0
  rotate_left
  · have he' : (e6 != 0) = true := by simpa using he
    have HE := Aside0.mk he
    clear he
    go_enter Try.func9, Try.ntmps9
    go_wp2_with (first
      | (go_at_call 14; rw [← HWA.out]; refine (model_Run.calls A0 c0 l0 (some ⟨w.heap.size + 2, 0, none⟩) 1 [o] m rs e6 _ (Kd.C_below hr0 HBA.out) hc0 HC1.out (Nat.le_refl _) HRN.out).mono ?_; rintro e w2 ⟨v0, v1, rfl, hR, hS, hb⟩; have HB2 := Aside0.mk (below_step HBA.out hb); have HD2 := Aside0.mk (HD.out.next (grown_below hb none) (by simp) (by simp)); have z0 : w2.cell? ⟨w.heap.size + 1, 0, none⟩ = some (.bool false) := (blk_cell HD2.out.rt 0).trans rfl; have z1 : w2.cell? ⟨w.heap.size + 1, 1, none⟩ = some (.int .i64 0) := (blk_cell HD2.out.rt 1).trans rfl; have z2 : w2.cell? ⟨w.heap.size + 1, 2, none⟩ = some (.int .i64 0) := (blk_cell HD2.out.rt 2).trans rfl; have z3 : w2.cell? ⟨w.heap.size + 1, 3, none⟩ = some (.slice none 0 0) := (blk_cell HD2.out.rt 3).trans rfl; have f0 := blk_frozen HD2.out.rt 0; have f1 := blk_frozen HD2.out.rt 1; have f2 := blk_frozen HD2.out.rt 2; have f3 := blk_frozen HD2.out.rt 3; clear hb hR hS))
    have hrt := ret_rt HD2.out.rt false 0 0 (.slice none 0 0)
    refine bodyPost_ret (results_list (rs := [.tmp 4, .cell 5 27, .tmp 6]) rfl (by simp) (.tmp (.cell (w.heap.size + 1) 27 #[.bool false, .int .i64 0, .int .i64 0, .slice none 0 0] (0, 0) _ rfl ?hh Try.underlying27 rfl (by kernel_rfl) (.tmp .nil)))) rfl ?_
    case hh => first | exact hrt | exact HD2.out.rt
    have hq := HQ.out
    rw [if_neg HE.out] at hq
    cases hq
    first
      | exact ⟨_, _, rfl, Kd.R_nil _ _ _ _ _, Kd.R_nil _ _ _ _ _, HB2.out⟩
      | exact ⟨_, _, rfl, Kd.R_nil _ _ _ _ _, Kd.R_nil _ _ _ _ _, below_ret0 (g := w.heap.size + 1) (b := false) (x := 0) (y := 0) (v := .slice none 0 0) HB2.out (by omega)⟩
  · subst he
    have HL1 := Aside0.mk (HLEN.out rfl)
    go_enter Try.func9, Try.ntmps9
    go_wp2_with (first
      | (go_at_call 14; rw [← HWA.out]; refine (model_Run.calls A0 c0 l0 (some ⟨w.heap.size + 2, 0, none⟩) 1 [o] m rs 0 _ (Kd.C_below hr0 HBA.out) hc0 HC1.out (Nat.le_refl _) HRN.out).mono ?_; rintro e w2 ⟨v0, v1, rfl, hR, hS, hb⟩; have HB2 := Aside0.mk (below_step HBA.out hb); have HD2 := Aside0.mk (HD.out.next (grown_below hb none) (by simp) (by simp)); have z0 : w2.cell? ⟨w.heap.size + 1, 0, none⟩ = some (.bool false) := (blk_cell HD2.out.rt 0).trans rfl; have z1 : w2.cell? ⟨w.heap.size + 1, 1, none⟩ = some (.int .i64 0) := (blk_cell HD2.out.rt 1).trans rfl; have z2 : w2.cell? ⟨w.heap.size + 1, 2, none⟩ = some (.int .i64 0) := (blk_cell HD2.out.rt 2).trans rfl; have z3 : w2.cell? ⟨w.heap.size + 1, 3, none⟩ = some (.slice none 0 0) := (blk_cell HD2.out.rt 3).trans rfl; have f0 := blk_frozen HD2.out.rt 0; have f1 := blk_frozen HD2.out.rt 1; have f2 := blk_frozen HD2.out.rt 2; have f3 := blk_frozen HD2.out.rt 3; obtain ⟨gr, cr, rfl, -⟩ := Kd.S_form hS (by have := HL1.out; omega); obtain ⟨cc, hcl, hM, hcc, -⟩ := Kd.R_elem (Kd.S_R hS) z27 0 (by omega) (by have := HL1.out; omega); rw [show rs.getD (0 : Int).toNat z27 = J27 rs 0 from rfl] at hM; simp only [show (0 : Int).toNat = 0 from rfl, Nat.zero_mul, Nat.zero_add] at hcc; obtain ⟨x, hx⟩ : ∃ x, x = J27 rs 0 := ⟨_, rfl⟩; rw [← hx] at hM; have HX := Aside0.mk hx; obtain ⟨v3, rfl, h3⟩ := k27_openM hM; obtain ⟨A3, c3, rfl⟩ := Kd.R_slice h3; have r0 := hcc 0 _ rfl; have r1 := hcc 1 _ rfl; have r2 := hcc 2 _ rfl; have r3 := hcc 3 _ rfl; have H3 := Aside0.mk (Kd.R_lower (Kd.R_mono h3 (fun k hk => hk.1)) HBA.out.size); have HM := Aside0.mk (Kd.R_lower hR HBA.out.size); have l1 : (0 : Int) < (rs.length : Int) := (by have := HL1.out; omega); clear hb hR hS hcl hM hcc h3 hx))
    go_region
    change Exit.then _ _ _ _ ((retW w2 (w.heap.size + 1) x.f0 x.f1 x.f2 (.slice A3 x.f3.length c3)).drew)
    have hrt := ret_rt HD2.out.rt x.f0 x.f1 x.f2 (.slice A3 x.f3.length c3)
    have hq := HQ.out
    first | rw [if_pos rfl] at hq | rw [if_pos trivial] at hq
    rw [← HX.out] at hq
    cases hq
    clear r0 r1 r2 r3 z0 z1 z2 z3 f0 f1 f2 f3
    have HO : Aside0 (Kd.R k51 51 (retW w2 (w.heap.size + 1) x.f0 x.f1 x.f2 (.slice A3 x.f3.length c3)).drew w.heap.size (fun k_ => some k_ ≠ (Value.slice A3 x.f3.length c3).ownBlock) v0 _) := ⟨Kd.R_drew (Kd.R_mono (Kd.R_tight rfl (ret_R HD2.out.rt x.f0 x.f1 x.f2 (.slice A3 x.f3.length c3) HM.out)) (fun k hk he => H3.out.1 k he.symm hk))⟩
    have HO3 := Aside0.mk (Kd.R_drew (ret_R HD2.out.rt x.f0 x.f1 x.f2 (.slice A3 x.f3.length c3) H3.out))
    have HB3 := Aside0.mk (below_ret (b := x.f0) (x := x.f1) (y := x.f2) (v := .slice A3 x.f3.length c3) (g := w.heap.size + 1) HB2.out (by omega))
    go_wp2
    refine bodyPost_ret (results_list (rs := [.tmp 4, .cell 5 27, .tmp 6]) rfl (by simp) (.tmp (.cell (w.heap.size + 1) 27 #[.bool x.f0, .int .i64 x.f1, .int .i64 x.f2, .slice A3 x.f3.length c3] (0, 0) _ rfl hrt Try.underlying27 rfl (by kernel_rfl) (.tmp .nil)))) rfl ?_
    exact ⟨_, _, rfl, HO.out, HO3.out, HB3.out⟩
end Go.Proofs.Ytanlnfcjdjamaaa.P
