/- P.modelMemory_holds, part 19 of 37: the contracts of the Go functions that the law calls, its own walk, and its plain law, for every input that the statement speaks of. -/
import Derived.Test.YtanlnfcjdjamaaaMMe14
import Derived.Test.YtanlnfcjdjamaaaMMe5
import Derived.Test.YtanlnfcjdjamaaaMMe2
set_option linter.unusedVariables false
set_option linter.unusedSimpArgs false
/- E5 -/
namespace Go.Proofs.Ytanlnfcjdjamaaa.P
open Go.RowKit Go.Proofs.YtanlnfcjdjamaaaW.PrintWords Go.Proofs.YtanlnfcjdjamaaaW.PrintLast Go.Proofs.YtanlnfcjdjamaaaW.PrintMore
def runL : List S51 → List S25 → List S51 × List S27
  | m, [] => (m, [])
  | m, o :: t => ((runL (doL m o).1 t).1, (doL m o).2 :: (runL (doL m o).1 t).2)
theorem run_snoc : ∀ (ops : List S25) (m : List S51) (o : S25), runL m (ops ++ [o]) = ((doL (runL m ops).1 o).1, (runL m ops).2 ++ [(doL (runL m ops).1 o).2])
  | [], m, o => rfl
  | x :: t, m, o => by
    rw [List.cons_append, runL, runL, run_snoc t]
    rfl
def okK (o : S25) : Bool := decide (1 ≤ o.f0 ∧ o.f0 ≤ 9)
def runF (l0 : List S51) (l1 : List S25) : List S51 × List S27 × Int :=
  if chkUp l0 = false then ([], [], 11) else if l1.all okK = false then ([], [], 5) else ((runL l0 l1).1, (runL l0 l1).2, 0)
def model_Run.f (l0 : List S51) (l1 : List S25) : Option (List S51 × List S27 × Int) := if l0.length < 100000000 ∧ l1.length < 100000000 then some (runF l0 l1) else none
theorem kind_val (o : S25) : model_Kind.f o.f0 = some (if okK o then 0 else 5) := by
  unfold model_Kind.f okK
  by_cases h1 : o.f0 < 1
  · rw [if_pos h1, decide_eq_false (by omega)]; rfl
  · rw [if_neg h1]
    by_cases h2 : o.f0 > 9
    · rw [if_pos h2, decide_eq_false (by omega)]; rfl
    · rw [if_neg h2, decide_eq_true (by omega)]; rfl
theorem rd25_get (l : List S25) (i : Nat) (h : i < l.length) : l[i] = J25 l (i : Int) := by
  unfold J25
  rw [Int.toNat_natCast, List.getD_eq_getElem?_getD, List.getElem?_eq_getElem h]
  rfl
theorem take_snoc25 (l : List S25) (j : Nat) (h : j < l.length) : l.take (j + 1) = l.take j ++ [J25 l (j : Int)] := by rw [List.take_succ_eq_append_getElem h, rd25_get l j h]
theorem do_len (m : List S51) (o : S25) : (doL m o).1.length ≤ m.length + 1 := by
  unfold doL
  split
  · dsimp only
    split
    · split
      · have := List.length_eraseIdx_le m (cntL m o.f1); omega
      · omega
    · split
      · rw [List.length_insertIdx]; split <;> omega
      · split
        · simp
        · omega
  · dsimp only; omega
set_option maxHeartbeats 8000000 in
set_option maxRecDepth 100000 in
theorem model_Run.calls (A0 : Option Addr) (c0 : Nat) (l0 : List (S51)) (A1 : Option Addr) (c1 : Nat) (l1 : List (S25)) (r1 : List (S51)) (r2 : List (S27)) (r3 : Int) (w : World) (hr0 : Kd.C k51 w A0 l0.length l0) (hc0 : l0.length ≤ c0) (hr1 : Kd.C k25 w A1 l1.length l1) (hc1 : l1.length ≤ c1) (h : model_Run.f l0 l1 = some (r1, r2, r3)) :
    Calls Try.prog 14 #[.slice A0 l0.length c0, .slice A1 l1.length c1] w fun e w' => ∃ v0_ v1_ : Value, e = .returned (.tuple #[v0_, v1_, .int .i64 r3]) ∧ Kd.R k51 51 w' w.heap.size (fun _ => True) v0_ r1 ∧ Kd.S k27 27 w' w.heap.size (fun k_ => some k_ ≠ (v0_ : Value).ownBlock) v1_ r2 ∧ Below w.heap.size w w' := by
  have hu25 := Try.underlying25
  have hu27 := Try.underlying27
  have hu51 := Try.underlying51
  unfold model_Run.f at h
  split at h
  rotate_left
  · simp at h
  rename_i hll
  obtain ⟨hl0, hl1⟩ := hll
  have HF := Aside0.mk (Option.some.inj h)
  clear h
  obtain ⟨b, hb⟩ : ∃ b, chkUp l0 = b := ⟨_, rfl⟩
  have hck := check_val l0 (by omega)
  rw [hb] at hck
  have HCK := Aside0.mk hck
  have HB0 := Aside0.mk hb
  clear hck hb
  cases b with
  | false =>
    go_enter Try.func14, Try.ntmps14
    go_wp2_with (first
      | (go_at_call 21; refine (model_Check.calls _ A0 c0 l0 _ w hr0 hc0 HCK.out).mono ?_; rintro e w1 ⟨rfl, hb⟩; rw [if_neg (by decide)]; have HB1 := Aside0.mk hb.below; clear hb))
    go_ret3
    have := HF.out
    unfold runF at this
    rw [if_pos HB0.out] at this
    cases this
    exact ⟨_, _, rfl, Kd.R_nil _ _ _ _ _, Kd.S_nil _ _ _ _ _, HB1.out⟩
  | true =>
    go_enter Try.func14, Try.ntmps14
    go_wp2_with (first
      | (go_at_call 21; refine (model_Check.calls _ A0 c0 l0 _ w hr0 hc0 HCK.out).mono ?_; rintro e w1 ⟨rfl, hb⟩; rw [if_pos rfl]; have HB1 := Aside0.mk hb.below; clear hb))
    go_loopw [22] (fun v22 W => ∃ (j : Nat), v22 = .int .i64 (j : Int) ∧ j ≤ l1.length ∧ Aside0 ((l1.take j).all okK = true) ∧ Aside0 (Below w.heap.size w W)) (fun v22 _ => l1.length - (intOf v22).toNat)
    case atStart => exact ⟨0, rfl, Nat.zero_le _, ⟨rfl⟩, HB1⟩
    case round =>
      clear HB1
      obtain ⟨j, rfl, hj, HK, HB⟩ := hrel
      by_cases hlt : j < l1.length
      · obtain ⟨o, ho⟩ : ∃ o, o = J25 l1 (j : Int) := ⟨_, rfl⟩
        obtain ⟨ad, ea, y0, y1, y2, y3⟩ := at_T25 (Kd.C_below hr1 HB.out) (j : Int) (by omega) (by omega)
        subst ea
        rw [← ho] at y0 y1 y2 y3
        rw [Int.toNat_natCast] at y0 y1 y2 y3
        have hkd := kind_val o
        obtain ⟨b, hb⟩ : ∃ b, okK o = b := ⟨_, rfl⟩
        rw [hb] at hkd
        have HKD := Aside0.mk hkd
        have HOK := Aside0.mk hb
        have HO := Aside0.mk ho
        have d1 : (0 : Int) ≤ (j : Int) := by omega
        have d2 : (j : Int) < (l1.length : Int) := by omega
        clear hkd hb ho
        cases b with
        | false =>
          go_wp2_with (first
            | (go_at_call 22; refine (model_Kind.calls o.f0 _ _ HKD.out).mono ?_; rintro e w2 ⟨rfl, hd⟩; rw [if_neg (by decide)]; have HB2 := Aside0.mk (below_step (below_alloc HB.out (.cells #[.int .i64 o.f0, .int .i64 o.f1, .int .i64 o.f2, .int .i64 o.f3] 25)) hd.below); clear hd))
          go_ret3
          have := HF.out
          unfold runF at this
          rw [if_neg (by rw [HB0.out]; decide), if_pos (by
            rw [Bool.eq_false_iff]
            intro hall
            have h1 := List.all_eq_true.1 hall o (by rw [HO.out, ← rd25_get l1 j hlt]; exact List.getElem_mem _)
            rw [HOK.out] at h1
            cases h1)] at this
          cases this
          exact ⟨_, _, rfl, Kd.R_nil _ _ _ _ _, Kd.S_nil _ _ _ _ _, HB2.out⟩
        | true =>
          go_wp2_with (first
            | (go_at_call 22; refine (model_Kind.calls o.f0 _ _ HKD.out).mono ?_; rintro e w2 ⟨rfl, hd⟩; rw [if_pos rfl]; have HB2 := Aside0.mk (below_step (below_alloc HB.out (.cells #[.int .i64 o.f0, .int .i64 o.f1, .int .i64 o.f2, .int .i64 o.f3] 25)) hd.below); clear hd))
          go_roundw
          case rel => exact ⟨j + 1, by go_num, by omega, ⟨by rw [take_snoc25 l1 j hlt, List.all_append, HK.out, ← HO.out]; simp [HOK.out]⟩, HB2⟩
          case measure => simp [intOf]; omega
      · obtain rfl : j = l1.length := by omega
        rw [List.take_length] at HK
        have hcln : api_Pair_40.f l0 = some l0 := by unfold api_Pair_40.f; rw [if_pos (by omega)]
        have HCL := Aside0.mk hcln
        have HUP := Aside0.mk ((chk_up l0).1 HB0.out)
        have HRF : Aside0 (runF l0 l1 = ((runL l0 l1).1, (runL l0 l1).2, 0)) := ⟨by unfold runF; rw [if_neg (by rw [HB0.out]; decide), if_neg (by rw [HK.out]; decide)]⟩
        clear hcln hlt hj
        go_wp2_with (first
          | (go_at_call 40; refine (api_Pair_40.calls A0 c0 l0 l0 _ (Kd.C_below hr0 HB.out) hc0 HCL.out).mono ?_; rintro e wc ⟨vc, rfl, ho, hb⟩; obtain ⟨Ac, cc, rfl⟩ := Kd.R_slice ho; have HMC := Aside0.mk (Kd.R_lower ho HB.out.size); have HBC := Aside0.mk (below_step HB.out hb); clear ho hb))
        go_loopw [0, 11, 37] (fun v0 v11 v37 W => ∃ (j : Nat) (ms : List S51) (rs : List S27) (A : Option Addr) (c : Nat), v0 = .slice A ms.length c ∧ v37 = .int .i64 (j : Int) ∧ j ≤ l1.length ∧ Aside0 (runL l0 (l1.take j) = (ms, rs)) ∧ Aside0 (Up ms ∧ ms.length ≤ l0.length + j ∧ rs.length = j) ∧ Aside0 (Kd.R k51 51 W w.heap.size (fun _ => True) (.slice A ms.length c) ms) ∧ Aside0 (Kd.S k27 27 W w.heap.size (fun k_ => some k_ ≠ (Value.slice A ms.length c).ownBlock) v11 rs) ∧ Aside0 (Below w.heap.size w W)) (fun _ _ v37 _ => l1.length - (intOf v37).toNat)
        case atStart => exact ⟨0, l0, [], Ac, cc, rfl, rfl, Nat.zero_le _, ⟨rfl⟩, ⟨HUP.out, by omega, rfl⟩, HMC, ⟨Kd.S_nil _ _ _ _ _⟩, HBC⟩
        case round =>
          clear HMC HBC HB
          obtain ⟨j, ms, rs, A, c, rfl, rfl, hj, HRUN, HX, HRM, HS, HB⟩ := hrel
          by_cases hlt : j < l1.length
          · obtain ⟨o, ho⟩ : ∃ o, o = J25 l1 (j : Int) := ⟨_, rfl⟩
            obtain ⟨ad, ea, y0, y1, y2, y3⟩ := at_T25 (Kd.C_below hr1 HB.out) (j : Int) (by omega) (by omega)
            subst ea
            rw [← ho] at y0 y1 y2 y3
            rw [Int.toNat_natCast] at y0 y1 y2 y3
            have HOE := Aside0.mk ho
            have hok : okK o = true := List.all_eq_true.1 HK.out o (by rw [ho, ← rd25_get l1 j hlt]; exact List.getElem_mem _)
            have hok2 : 1 ≤ o.f0 ∧ o.f0 ≤ 9 := of_decide_eq_true hok
            have HUP2 := Aside0.mk (do_step ms HX.out.1 o hok2.1 hok2.2).2
            obtain ⟨A3, c3, rfl⟩ := Kd.S_slice HS.out
            obtain ⟨m2, hm2⟩ : ∃ m2, m2 = (doL ms o).1 := ⟨_, rfl⟩
            obtain ⟨r, hr⟩ : ∃ r, r = (doL ms o).2 := ⟨_, rfl⟩
            have HM2 := Aside0.mk hm2
            have HR2 := Aside0.mk hr
            have d1 : (0 : Int) ≤ (j : Int) := by omega
            have d2 : (j : Int) < (l1.length : Int) := by omega
            have HLT := Aside0.mk hlt
            clear ho hok hok2 hm2 hr hlt
            go_wp2_with (first
              | (go_at_call 41; obtain ⟨wr2, hwr2⟩ : ∃ wr2, wr2 = wr := ⟨_, rfl⟩; rw [← hwr2] at y0 y1 y2 y3 HRM HS HB ⊢; obtain ⟨Wb, hWb⟩ : ∃ Wb, Wb = (wr2.alloc (.cells #[.int .i64 o.f0, .int .i64 o.f1, .int .i64 o.f2, .int .i64 o.f3] 25)).alloc (.cells #[.bool false, .int .i64 0, .int .i64 0, .slice none 0 0] 27) := ⟨_, rfl⟩; have hb1 := blk_new (wr2.alloc (.cells #[.int .i64 o.f0, .int .i64 o.f1, .int .i64 o.f2, .int .i64 o.f3] 25)) (.cells #[.bool false, .int .i64 0, .int .i64 0, .slice none 0 0] 27); have hb2 : Below wr2.heap.size wr2 ((wr2.alloc (.cells #[.int .i64 o.f0, .int .i64 o.f1, .int .i64 o.f2, .int .i64 o.f3] 25)).alloc (.cells #[.bool false, .int .i64 0, .int .i64 0, .slice none 0 0] 27)) := below_alloc (below_alloc (Below.refl _ _) _) _; have hs1 : (wr2.alloc (.cells #[.int .i64 o.f0, .int .i64 o.f1, .int .i64 o.f2, .int .i64 o.f3] 25)).heap.size = wr2.heap.size + 1 := (by simp [World.alloc_eq]); have hs2 : ((wr2.alloc (.cells #[.int .i64 o.f0, .int .i64 o.f1, .int .i64 o.f2, .int .i64 o.f3] 25)).alloc (.cells #[.bool false, .int .i64 0, .int .i64 0, .slice none 0 0] 27)).heap.size = wr2.heap.size + 2 := (by simp [World.alloc_eq]); rw [hs1] at hb1; rw [← hWb] at hb1 hb2 hs2 ⊢; clear hWb hwr2; refine (do_calls A c w.heap.size ms o Wb HX.out.1 (by have := HX.out; have := HLT.out; omega) (Kd.R_below HRM.out hb2) (Nat.le_trans HB.out.size hb2.size)).mono ?_; rw [← HM2.out, ← HR2.out]; rintro e w3 ⟨vm, v4, rfl, hRm, hR4, hg, hat⟩; obtain ⟨Am, cm, rfl⟩ := Kd.R_slice hRm; obtain ⟨A4, c4, rfl⟩ := Kd.R_slice hR4; have hown : ∀ k, (Value.slice A ms.length c).ownBlock = some k → k < wr2.heap.size := Kd.R_lt HRM.out; have hk : w3.heap[wr2.heap.size + 1]? = some (.cells (rC false 0 0 (.slice none 0 0)) 27 (0, 0)) := (hg.block _ (by omega) (fun h => by have := hown _ h.symm; omega)).trans hb1; have q0 : w3.cell? ⟨wr2.heap.size + 1, 0, none⟩ = some (.bool false) := (blk_cell hk 0).trans rfl; have q1 : w3.cell? ⟨wr2.heap.size + 1, 1, none⟩ = some (.int .i64 0) := (blk_cell hk 1).trans rfl; have q2 : w3.cell? ⟨wr2.heap.size + 1, 2, none⟩ = some (.int .i64 0) := (blk_cell hk 2).trans rfl; have q3 : w3.cell? ⟨wr2.heap.size + 1, 3, none⟩ = some (.slice none 0 0) := (blk_cell hk 3).trans rfl; have g0 := blk_frozen hk 0; have g1 := blk_frozen hk 1; have g2 := blk_frozen hk 2; have g3 := blk_frozen hk 3; have HGR := Aside0.mk (ret_grown (b := r.f0) (x := r.f1) (y := r.f2) (v := .slice A4 r.f3.length c4) (g := wr2.heap.size + 1) (grown_then (grown_below hb2 _) hg) (by omega)); have HS5 := Aside0.mk (Kd.S_grown (Kd.S_bound HS.out) HGR.out (fun k hk => hk.1)); have HM5 := Aside0.mk (ret_R hk r.f0 r.f1 r.f2 (.slice A4 r.f3.length c4) hRm); have H45 := Aside0.mk (ret_R hk r.f0 r.f1 r.f2 (.slice A4 r.f3.length c4) hR4); have HAT := Aside0.mk hat; have HB5 : Aside0 (Below w.heap.size w (retW w3 (wr2.heap.size + 1) r.f0 r.f1 r.f2 (.slice A4 r.f3.length c4))) := ⟨HB.out.grown HGR.out HB.out.size (fun k hk => Kd.R_base HRM.out k hk)⟩; have HSZ : Aside0 (wr2.heap.size + 2 = Wb.heap.size ∧ w3.heap.size ≤ ((retW w3 (wr2.heap.size + 1) r.f0 r.f1 r.f2 (.slice A4 r.f3.length c4))).heap.size) := ⟨hs2.symm, by simp [retW, World.setCell]⟩; have HOWN := Aside0.mk hown; have HLM := Aside0.mk (Kd.R_lt hRm); clear hb1 hb2 hs1 hs2 hRm hR4 hg hat hown hk y0 y1 y2 y3)
              | (at_builtin; refine Kd.S_append k27 (w0 := w) w.heap.size rfl (.tmp 47) (.tmp 49) 38 27 (.agg #[(.bool false), (.int .i64 0), (.int .i64 0), (.slice none 0 0)]) 48 rfl Try.underlying38 info27 rfl (by decide) (by omega) (.slice A3 rs.length c3) rs r [.bool r.f0, .int .i64 r.f1, .int .i64 r.f2, .slice A4 r.f3.length c4] (fun k => some k ≠ (Value.slice Am m2.length cm).ownBlock) (fun k => Wb.heap.size ≤ k ∧ some k ≠ (Value.slice Am m2.length cm).ownBlock) rfl ?eL ?aP ?aK ?aF ?aO ?aB ?aS ?aL ?_; (case eL => first | rfl | (show Value.slice _ 1 1 = Value.slice _ 1 1; simp)); (case aP => exact k27_mkM (retW w3 (wr2.heap.size + 1) r.f0 r.f1 r.f2 (.slice A4 r.f3.length c4)) w.heap.size _ r (Kd.R_lower (Kd.R_mono (Kd.R_bound H45.out) (fun k hk => ⟨hk.2.1, hk.1⟩)) (by have := HSZ.out; have := HB.out.size; omega))); (case aK => exact fun k hk => ⟨hk.2, fun e_ => by have := Kd.S_lt HS.out k e_.symm; have := HSZ.out; have := hk.1; omega⟩); (case aF => exact fun k hk e_ => by have := HLM.out k e_.symm; have := HSZ.out.2; have hk2 : ((retW w3 (wr2.heap.size + 1) r.f0 r.f1 r.f2 (.slice A4 r.f3.length c4))).heap.size ≤ k := hk; omega); (case aO => exact Kd.S_mono HS5.out (fun k hk => ⟨fun e_ => HAT.out.elim (fun h => hk.1 (by rw [← h]; exact e_)) (fun ⟨b, h1, h2⟩ => by have h3 : some k = some b := e_.trans h1; injection h3 with h3; have := hk.2.2.1; have := HSZ.out; omega), fun h => by have := h.1; have := hk.2.2.1; have := HSZ.out; omega⟩)); (case aB => exact HB5.out); (case aS => exact HB5.out.size); (case aL => have := HX.out; have := HLT.out; show (rs.length + 1) * 48 ≤ _; omega); intro v5 w5 ho5 hb5 hg5 hat5; have HS6 := Aside0.mk ho5; have HB6 := Aside0.mk hb5; have HM6 := Aside0.mk (Kd.R_over' HM5.out (Kd.S_typed HS5.out) (by decide) hg5); clear ho5 hb5 hg5 hat5))
            go_roundw
            case rel => exact ⟨j + 1, m2, rs ++ [r], Am, cm, rfl, by go_num, by have := HLT.out; omega, ⟨by rw [take_snoc25 l1 j HLT.out, run_snoc, HRUN.out, ← HOE.out, ← HM2.out, ← HR2.out]⟩, ⟨by rw [HM2.out]; exact HUP2.out, by have h1 := do_len ms o; rw [← HM2.out] at h1; have := HX.out; omega, by have := HX.out; simp; omega⟩, HM6, HS6, HB6⟩
            case measure => have := HLT.out; simp [intOf]; omega
          · obtain rfl : j = l1.length := by omega
            go_wp2
            go_ret3
            have h1 := HF.out
            have h2 := HRUN.out
            rw [List.take_length] at h2
            rw [HRF.out, h2] at h1
            cases h1
            exact ⟨_, _, rfl, HRM.out, HS.out, HB.out⟩
end Go.Proofs.Ytanlnfcjdjamaaa.P
