/- P.modelMemory_holds, part 15 of 37: the contracts of the Go functions that the law calls, its own walk, and its plain law, for every input that the statement speaks of. -/
import Derived.Test.YtanlnfcjdjamaaaMMe13
import Derived.Test.YtanlnfcjdjamaaaMMe9
import Derived.Test.YtanlnfcjdjamaaaMMe8
import Derived.Test.YtanlnfcjdjamaaaMMe2
set_option linter.unusedVariables false
set_option linter.unusedSimpArgs false
/- E4 -/
namespace Go.Proofs.Ytanlnfcjdjamaaa.P
open Go.RowKit Go.Proofs.YtanlnfcjdjamaaaW.PrintWords Go.Proofs.YtanlnfcjdjamaaaW.PrintLast Go.Proofs.YtanlnfcjdjamaaaW.PrintMore
theorem grown_then {a b c : World} {r : Option Nat} (h : a.grownBy b r) (k : b.grownBy c r) : a.grownBy c r :=
  ⟨k.os.trans h.os, k.tape.trans h.tape, k.output.trans h.output, Nat.le_trans h.size k.size, fun i hi hn => (k.block i (Nat.lt_of_lt_of_le hi h.size) hn).trans (h.block i hi hn)⟩
theorem grown_below {a b : World} (h : Below a.heap.size a b) (r : Option Nat) : a.grownBy b r := ⟨h.os, h.tape, h.output, h.size, fun i hi _ => h.block i hi⟩
def rC (b : Bool) (x y : Int) (v : Value) : Array Value := #[.bool b, .int .i64 x, .int .i64 y, v]
structure DoW (w W : World) (o : S25) (rc : Array Value) : Prop where
  x0 : W.cell? ⟨w.heap.size, 0, none⟩ = some (.int .i64 o.f0)
  x1 : W.cell? ⟨w.heap.size, 1, none⟩ = some (.int .i64 o.f1)
  x2 : W.cell? ⟨w.heap.size, 2, none⟩ = some (.int .i64 o.f2)
  x3 : W.cell? ⟨w.heap.size, 3, none⟩ = some (.int .i64 o.f3)
  rt : W.heap[w.heap.size + 1]? = some (.cells rc 27 (0, 0))
theorem DoW.start (w : World) (o : S25) : DoW w ((w.alloc (.cells #[.int .i64 o.f0, .int .i64 o.f1, .int .i64 o.f2, .int .i64 o.f3] 25)).alloc (.cells #[.bool false, .int .i64 0, .int .i64 0, .slice none 0 0] 27)) o (rC false 0 0 (.slice none 0 0)) := by
  have h0 := blk_new w (.cells #[.int .i64 o.f0, .int .i64 o.f1, .int .i64 o.f2, .int .i64 o.f3] 25)
  have h1 := blk_alloc (show _ = some _ from h0) (.cells #[.bool false, .int .i64 0, .int .i64 0, .slice none 0 0] 27)
  have h2 := blk_new (w.alloc (.cells #[.int .i64 o.f0, .int .i64 o.f1, .int .i64 o.f2, .int .i64 o.f3] 25)) (.cells #[.bool false, .int .i64 0, .int .i64 0, .slice none 0 0] 27)
  have h3 : (w.alloc (.cells #[.int .i64 o.f0, .int .i64 o.f1, .int .i64 o.f2, .int .i64 o.f3] 25)).heap.size = w.heap.size + 1 := by simp [World.alloc_eq]
  have h2' : ((w.alloc (.cells #[.int .i64 o.f0, .int .i64 o.f1, .int .i64 o.f2, .int .i64 o.f3] 25)).alloc (.cells #[.bool false, .int .i64 0, .int .i64 0, .slice none 0 0] 27)).heap[w.heap.size + 1]? = some (.cells #[.bool false, .int .i64 0, .int .i64 0, .slice none 0 0] 27 (0, 0)) := by rw [← h3]; exact h2
  exact ⟨(blk_cell h1 0).trans rfl, (blk_cell h1 1).trans rfl, (blk_cell h1 2).trans rfl, (blk_cell h1 3).trans rfl, h2'⟩
theorem DoW.next {w W W2 : World} {o : S25} {rc : Array Value} (h : DoW w W o rc) {r : Option Nat} (hg : W.grownBy W2 r) (h0 : some w.heap.size ≠ r) (h1 : some (w.heap.size + 1) ≠ r) : DoW w W2 o rc := by
  have l0 : w.heap.size < W.heap.size := World.block_lt_of_cell? W ⟨w.heap.size, 0, none⟩ h.x0
  have l1 : w.heap.size + 1 < W.heap.size := (Array.getElem?_eq_some_iff.1 h.rt).1
  exact ⟨cell_heap (hg.block _ l0 h0) h.x0, cell_heap (hg.block _ l0 h0) h.x1, cell_heap (hg.block _ l0 h0) h.x2, cell_heap (hg.block _ l0 h0) h.x3, (hg.block _ l1 h1).trans h.rt⟩
def retW (W : World) (g : Nat) (b : Bool) (x y : Int) (v : Value) : World := (((W.setCell ⟨g, 0, none⟩ (.bool b)).setCell ⟨g, 1, none⟩ (.int .i64 x)).setCell ⟨g, 2, none⟩ (.int .i64 y)).setCell ⟨g, 3, none⟩ v
theorem ret_rt {W : World} {g : Nat} {b0 : Bool} {x0 y0 : Int} {v0 : Value} (h : W.heap[g]? = some (.cells (rC b0 x0 y0 v0) 27 (0, 0))) (b : Bool) (x y : Int) (v : Value) : (retW W g b x y v).heap[g]? = some (.cells (rC b x y v) 27 (0, 0)) := by
  unfold retW
  exact blk_put (cs := #[.bool b, .int .i64 x, .int .i64 y, v0]) (blk_put (cs := #[.bool b, .int .i64 x, .int .i64 y0, v0]) (blk_put (cs := #[.bool b, .int .i64 x0, .int .i64 y0, v0]) (blk_put (cs := #[.bool b0, .int .i64 x0, .int .i64 y0, v0]) h 0 (.bool b) rfl) 1 (.int .i64 x) rfl) 2 (.int .i64 y) rfl) 3 v rfl
theorem ret_R {W : World} {g : Nat} {b0 : Bool} {x0 y0 : Int} {v0 : Value} (h : W.heap[g]? = some (.cells (rC b0 x0 y0 v0) 27 (0, 0))) (b : Bool) (x y : Int) (v : Value) {base : Nat} {ok : Nat → Prop} {u : Value} {ms : List S51} (hR : Kd.R k51 51 W base ok u ms) : Kd.R k51 51 (retW W g b x y v) base ok u ms := by
  have h1 := blk_put (cs' := #[.bool b, .int .i64 x0, .int .i64 y0, v0]) h 0 (.bool b) rfl
  have h2 := blk_put (cs' := #[.bool b, .int .i64 x, .int .i64 y0, v0]) h1 1 (.int .i64 x) rfl
  have h3 := blk_put (cs' := #[.bool b, .int .i64 x, .int .i64 y, v0]) h2 2 (.int .i64 y) rfl
  exact Kd.R_set (Kd.R_set (Kd.R_set (Kd.R_set hR h (by decide) 0 (.bool b)) h1 (by decide) 1 (.int .i64 x)) h2 (by decide) 2 (.int .i64 y)) h3 (by decide) 3 v
theorem ret_grown {w W : World} {g : Nat} {b : Bool} {x y : Int} {v : Value} {r : Option Nat} (h : w.grownBy W r) (hg : w.heap.size ≤ g) : w.grownBy (retW W g b x y v) r := by
  refine ⟨h.os, h.tape, h.output, by have := h.size; simpa [retW, World.setCell] using this, fun k hk hn => ?_⟩
  have hne : k ≠ g := by omega
  unfold retW
  rw [Below.heap_setCell _ _ _ _ hne, Below.heap_setCell _ _ _ _ hne, Below.heap_setCell _ _ _ _ hne, Below.heap_setCell _ _ _ _ hne]
  exact h.block k hk hn
theorem ret_by (W : World) (g : Nat) (b : Bool) (x y : Int) (v : Value) : W.grownBy (retW W g b x y v).drew (some g) := by
  refine ⟨rfl, rfl, rfl, by show W.heap.size ≤ (retW W g b x y v).heap.size; simp [retW, World.setCell], fun k hk hn => ?_⟩
  have hne : k ≠ g := fun h => hn (by rw [h])
  show (retW W g b x y v).heap[k]? = _
  unfold retW
  rw [Below.heap_setCell _ _ _ _ hne, Below.heap_setCell _ _ _ _ hne, Below.heap_setCell _ _ _ _ hne, Below.heap_setCell _ _ _ _ hne]
theorem below_ret {w W : World} {g : Nat} {b : Bool} {x y : Int} {v : Value} (h : Below w.heap.size w W) (hg : w.heap.size ≤ g) : Below w.heap.size w (retW W g b x y v).drew :=
  h.grown (ret_by W g b x y v) h.size (fun k hk => by injection hk with hk; omega)
theorem retd_grown {w W : World} {g : Nat} {b : Bool} {x y : Int} {v : Value} {r : Option Nat} (h : w.grownBy W r) (hg : w.heap.size ≤ g) : w.grownBy (retW W g b x y v).drew r := by
  have h2 := ret_grown (b := b) (x := x) (y := y) (v := v) h hg
  exact ⟨h2.os, h2.tape, h2.output, h2.size, h2.block⟩
theorem set_by (W : World) (g j : Nat) (v : Value) : W.grownBy (W.setCell ⟨g, j, none⟩ v) (some g) :=
  ⟨rfl, rfl, rfl, by simp [World.setCell], fun k _ hn => Below.heap_setCell _ _ _ _ (fun h => hn (by rw [show k = g from h]))⟩
theorem mod_set (f : S51 → S51) : ∀ (ms : List S51) (i : Nat), i < ms.length → ms.modify i f = ms.set i (f (J51 ms (i : Int)))
  | x :: r, 0, _ => rfl
  | x :: r, i + 1, h => by
    have := mod_set f r i (by simpa using h)
    simp only [List.modify_succ_cons, List.set_cons_succ, this]
    rfl
theorem set_row {W : World} {g n c base i : Nat} {ms : List S51} (h : Kd.R k51 51 W base (fun _ => True) (.slice (some ⟨g, 0, none⟩) n c) ms) (hi : i < ms.length) (u : Int) : Kd.R k51 51 (W.setCell ⟨g, i * 2 + 1, none⟩ (.int .i64 u)) base (fun _ => True) (.slice (some ⟨g, 0, none⟩) n c) (ms.modify i (fun x => { x with f1 := u })) := by
  have hn := (Kd.R_reads' h).1
  obtain ⟨cc, hc, hM, hcc, hff⟩ := Kd.R_elem h z51 (i : Int) (by omega) (by omega)
  have hcs := k51_openM hM
  subst hcs
  obtain ⟨h1, -⟩ := Kd.R_seg h (i : Int) (by omega) (by omega) (seg := [.int .i64 u]) (j := 1) (x' := { J51 ms (i : Int) with f1 := u }) (okp := fun _ => False) hc hcc (by show 1 + 1 ≤ 2; decide) (k51_mk W { J51 ms (i : Int) with f1 := u }) (fun _ hk => hk.elim)
  rw [mod_set _ _ _ hi]
  rw [Int.toNat_natCast] at h1
  exact h1
theorem row_at {W : World} {g n c base : Nat} {ok : Nat → Prop} {ms : List S51} (h : Kd.R k51 51 W base ok (.slice (some ⟨g, 0, none⟩) n c) ms) (i : Nat) (hi : i < ms.length) : W.cell? ⟨g, i * 2 + 1, none⟩ = some (.int .i64 (J51 ms (i : Int)).f1) ∧ W.frozen? ⟨g, i * 2 + 1, none⟩ = false := by
  have hn := (Kd.R_reads' h).1
  obtain ⟨c, hc, hM, hcc, hff⟩ := Kd.R_elem h z51 (i : Int) (by omega) (by omega)
  rw [show ms.getD (i : Int).toNat z51 = J51 ms (i : Int) from rfl] at hM
  simp only [Int.toNat_natCast, show k51.sz = 2 from rfl] at hcc hff
  have := k51_openM hM
  subst this
  exact ⟨hcc 1 _ rfl, hff 1⟩
def DoP (w : World) (base : Nat) (v : Value) (m : List S51) (r : S27) (e : Ending) (w' : World) : Prop :=
  ∃ v' v4, e = .returned (.tuple #[v', .agg #[.bool r.f0, .int .i64 r.f1, .int .i64 r.f2, v4]]) ∧ Kd.R k51 51 w' base (fun _ => True) v' m ∧ Kd.R k51 51 w' w.heap.size (fun k => some k ≠ v'.ownBlock) v4 r.f3 ∧ w.grownBy w' v.ownBlock ∧ (v'.ownBlock = v.ownBlock ∨ ∃ b, v'.ownBlock = some b ∧ w.heap.size ≤ b)
theorem changes_val (k : Int) : model_Changes.f k = some (decide (k = 2 ∨ k = 3 ∨ k = 4)) := by
  unfold model_Changes.f
  by_cases h2 : k = 2
  · rw [if_pos h2]; simp [h2]
  · rw [if_neg h2]
    by_cases h3 : k = 3
    · rw [if_pos h3]; simp [h3]
    · rw [if_neg h3]
      by_cases h4 : k = 4
      · subst h4; rfl
      · simp [h2, h3, h4]
set_option maxHeartbeats 4000000 in
set_option maxRecDepth 100000 in
theorem do_read (A : Option Addr) (c base : Nat) (ms : List S51) (o : S25) (w : World) (hup : Up ms) (hl : ms.length < 1000000000) (hR : Kd.R k51 51 w base (fun _ => True) (.slice A ms.length c) ms) (hbw : base ≤ w.heap.size) (hk : ¬ (o.f0 = 2 ∨ o.f0 = 3 ∨ o.f0 = 4)) :
    Calls Try.prog 41 #[.slice A ms.length c, .agg #[.int .i64 o.f0, .int .i64 o.f1, .int .i64 o.f2, .int .i64 o.f3]] w fun e w' => DoP w base (.slice A ms.length c) ms (readL ms o) e w' := by
  have hu25 := Try.underlying25
  have hu27 := Try.underlying27
  have hu51 := Try.underlying51
  have hch := changes_val o.f0
  rw [decide_eq_false hk] at hch
  have HCH := Aside0.mk hch
  have HRD := Aside0.mk (read_up ms hup hl o)
  obtain ⟨r, hr⟩ : ∃ r, readL ms o = r := ⟨_, rfl⟩
  rw [hr] at HRD ⊢
  have HR := Aside0.mk hR
  obtain ⟨Wa, hWa⟩ : ∃ Wa, Wa = (w.alloc (.cells #[.int .i64 o.f0, .int .i64 o.f1, .int .i64 o.f2, .int .i64 o.f3] 25)).alloc (.cells #[.bool false, .int .i64 0, .int .i64 0, .slice none 0 0] 27) := ⟨_, rfl⟩
  have hD := DoW.start w o
  rw [← hWa] at hD
  have hBa : Below w.heap.size w Wa := by rw [hWa]; exact below_alloc (below_alloc (Below.refl _ _) _) _
  have HD := Aside0.mk hD
  have HBA := Aside0.mk hBa
  have HWA := Aside0.mk hWa
  have HH := Aside0.mk hk
  obtain ⟨x0, x1, x2, x3, -⟩ := hD
  clear hWa hch hr hR hk hBa
  go_enter Try.func41, Try.ntmps41
  go_wp2_with (first
    | (go_at_call 23; rw [← HWA.out]; refine (model_Changes.calls o.f0 false Wa HCH.out).mono ?_; rintro e w1 ⟨rfl, hd⟩; have hb := hd.below; have HB1 := Aside0.mk hb; have HD1 := Aside0.mk (HD.out.next (grown_below hb none) (by simp) (by simp)); have y0 := HD1.out.x0; have y1 := HD1.out.x1; have y2 := HD1.out.x2; have y3 := HD1.out.x3; clear hb hd x0 x1 x2 x3)
    | (go_at_call 50; refine (model_read.calls A c ms o.f0 o.f1 o.f2 o.f3 _ _ _ _ w1 (Kd.C_below (Kd.C_below (Kd.R_reads' HR.out).2.2 HBA.out) HB1.out) (Kd.R_reads' HR.out).2.1 HRD.out).mono ?_; rintro e w2 ⟨v4, rfl, ho2, hb⟩; obtain ⟨A4, c4, rfl⟩ := Kd.R_slice ho2; have HB2 := Aside0.mk hb; have HO2 := Aside0.mk ho2; have HD2 := Aside0.mk (HD1.out.next (grown_below hb none) (by simp) (by simp)); have z0 : w2.cell? ⟨w.heap.size + 1, 0, none⟩ = some (.bool false) := (blk_cell HD2.out.rt 0).trans rfl; have z1 : w2.cell? ⟨w.heap.size + 1, 1, none⟩ = some (.int .i64 0) := (blk_cell HD2.out.rt 1).trans rfl; have z2 : w2.cell? ⟨w.heap.size + 1, 2, none⟩ = some (.int .i64 0) := (blk_cell HD2.out.rt 2).trans rfl; have z3 : w2.cell? ⟨w.heap.size + 1, 3, none⟩ = some (.slice none 0 0) := (blk_cell HD2.out.rt 3).trans rfl; have f0 := blk_frozen HD2.out.rt 0; have f1 := blk_frozen HD2.out.rt 1; have f2 := blk_frozen HD2.out.rt 2; have f3 := blk_frozen HD2.out.rt 3; clear hb ho2))
  have hrt := ret_rt HD2.out.rt r.f0 r.f1 r.f2 (.slice A4 r.f3.length c4)
  refine bodyPost_ret (results_list (rs := [.tmp 4, .cell 5 27]) rfl (by simp) (.tmp (.cell (w.heap.size + 1) 27 #[.bool r.f0, .int .i64 r.f1, .int .i64 r.f2, .slice A4 r.f3.length c4] (0, 0) _ rfl hrt Try.underlying27 rfl (by kernel_rfl) .nil))) rfl ?_
  refine ⟨.slice A ms.length c, .slice A4 r.f3.length c4, rfl, ret_R HD2.out.rt _ _ _ _ (Kd.R_below (Kd.R_below (Kd.R_below HR.out HBA.out) HB1.out) HB2.out), ?_, ret_grown (grown_below (below_step (below_step HBA.out HB1.out) HB2.out) _) (by omega), .inl rfl⟩
  exact ret_R HD2.out.rt _ _ _ _ (Kd.R_lower (Kd.R_mono (Kd.R_bound HO2.out) (fun k hk he => by have h1 := Kd.R_lt HR.out k he.symm; have h2 := hk.2.1; have := (below_step HBA.out HB1.out).size; omega)) (below_step HBA.out HB1.out).size)
set_option maxHeartbeats 4000000 in
set_option maxRecDepth 100000 in
theorem do_absent_has (A : Option Addr) (c base : Nat) (ms : List S51) (o : S25) (w : World) (hup : Up ms) (hl : ms.length < 1000000000) (hR : Kd.R k51 51 w base (fun _ => True) (.slice A ms.length c) ms) (hbw : base ≤ w.heap.size) (hk : o.f0 = 3) (hh : hasL ms o.f1 = true) :
    Calls Try.prog 41 #[.slice A ms.length c, .agg #[.int .i64 o.f0, .int .i64 o.f1, .int .i64 o.f2, .int .i64 o.f3]] w fun e w' => DoP w base (.slice A ms.length c) (ms) ⟨false, 0, valL ms o.f1, []⟩ e w' := by
  have hu25 := Try.underlying25
  have hu27 := Try.underlying27
  have hu51 := Try.underlying51
  have hch := changes_val o.f0
  rw [decide_eq_true (by omega)] at hch
  have HCH := Aside0.mk hch
  have hfd := find_up ms hup hl o.f1
  rw [hh] at hfd
  have hcl := cnt_le ms o.f1
  have hlt := has_lt hup hh
  have hval := val_rd ms o.f1 hlt
  obtain ⟨q, hq⟩ : ∃ q, valL ms o.f1 = q := ⟨_, rfl⟩
  rw [hq] at hval ⊢
  obtain ⟨g, cg, ea, -⟩ := Kd.R_form hR (by omega)
  injection ea with ea _ hcc
  subst hcc
  subst ea
  obtain ⟨i, hi⟩ : ∃ i, cntL ms o.f1 = i := ⟨_, rfl⟩
  rw [hi] at hfd hcl hlt hval
  try rw [hi]
  have HFD := Aside0.mk hfd
  have HR := Aside0.mk hR
  obtain ⟨Wa, hWa⟩ : ∃ Wa, Wa = (w.alloc (.cells #[.int .i64 o.f0, .int .i64 o.f1, .int .i64 o.f2, .int .i64 o.f3] 25)).alloc (.cells #[.bool false, .int .i64 0, .int .i64 0, .slice none 0 0] 27) := ⟨_, rfl⟩
  have hD := DoW.start w o
  rw [← hWa] at hD
  have hBa : Below w.heap.size w Wa := by rw [hWa]; exact below_alloc (below_alloc (Below.refl _ _) _) _
  have HD := Aside0.mk hD
  have HBA := Aside0.mk hBa
  have HWA := Aside0.mk hWa
  obtain ⟨x0, x1, x2, x3, -⟩ := hD
  have k1 : (o.f0 != 3) = false := by simp [hk]
  have k2 : (o.f0 == 4) = false := by simp [hk]
  have k3 : (o.f0 == 2) = false := by simp [hk]
  have HVAL := Aside0.mk hval
  have i0 : (0 : Int) ≤ (i : Int) := by omega
  have i1 : (i : Int) < (ms.length : Int) := by omega
  clear hval hq
  clear hk
  clear hWa hch hR hBa hfd hi hh
  go_enter Try.func41, Try.ntmps41
  go_wp2_with (first
    | (go_at_call 23; rw [← HWA.out]; refine (model_Changes.calls o.f0 true Wa HCH.out).mono ?_; rintro e w1 ⟨rfl, hd⟩; have hb := hd.below; have HB1 := Aside0.mk (below_step HBA.out hb); have HD1 := Aside0.mk (HD.out.next (grown_below hb none) (by simp) (by simp)); have y0 := HD1.out.x0; have y1 := HD1.out.x1; have y2 := HD1.out.x2; have y3 := HD1.out.x3; clear hb hd x0 x1 x2 x3)
    | (go_at_call 47; refine (model_find.calls (some ⟨g, 0, none⟩) c ms o.f1 _ _ w1 (Kd.C_below (Kd.R_reads' HR.out).2.2 HB1.out) (Kd.R_reads' HR.out).2.1 HFD.out).mono ?_; rintro e w2 ⟨rfl, hb⟩; have HB2 := Aside0.mk (below_alloc (below_step HB1.out hb) (.cells #[.bool false, .int .i64 0, .int .i64 0, .slice none 0 0] 27)); have HD2 := Aside0.mk ((HD1.out.next (grown_below hb none) (by simp) (by simp)).next (grown_below (below_alloc (Below.refl _ _) (.cells #[.bool false, .int .i64 0, .int .i64 0, .slice none 0 0] 27)) none) (by simp) (by simp)); have HN : Aside0 ((w2.alloc (.cells #[.bool false, .int .i64 0, .int .i64 0, .slice none 0 0] 27)).heap[w2.heap.size]? = some (.cells (rC false 0 0 (.slice none 0 0)) 27 (0, 0))) := ⟨blk_new w2 _⟩; have HS : Aside0 (w.heap.size + 2 ≤ w2.heap.size) := ⟨by have := (Array.getElem?_eq_some_iff.1 (HD1.out.next (grown_below hb none) (by simp) (by simp)).rt).1; omega⟩; have a0 := HD2.out.x0; have a1 := HD2.out.x1; have a2 := HD2.out.x2; have a3 := HD2.out.x3; clear hb y0 y1 y2 y3))
  have HRb := Aside0.mk (Kd.R_below HR.out HB2.out)
  obtain ⟨Wb, hWb⟩ : ∃ Wb, Wb = w2.alloc (.cells #[.bool false, .int .i64 0, .int .i64 0, .slice none 0 0] 27) := ⟨_, rfl⟩
  rw [← hWb] at HB2 HD2 HN a0 a1 a2 a3 HRb ⊢
  clear hWb
  obtain ⟨n8, hn8⟩ : ∃ n8, n8 = w2.heap.size := ⟨_, rfl⟩
  rw [← hn8] at HN HS ⊢
  clear hn8
  have c0 : Wb.cell? ⟨n8, 0, none⟩ = some (.bool false) := (blk_cell HN.out 0).trans rfl
  have c1 : Wb.cell? ⟨n8, 1, none⟩ = some (.int .i64 0) := (blk_cell HN.out 1).trans rfl
  have c2 : Wb.cell? ⟨n8, 2, none⟩ = some (.int .i64 0) := (blk_cell HN.out 2).trans rfl
  have c3 : Wb.cell? ⟨n8, 3, none⟩ = some (.slice none 0 0) := (blk_cell HN.out 3).trans rfl
  have f0 := blk_frozen HN.out 0
  have f1 := blk_frozen HN.out 1
  have f2 := blk_frozen HN.out 2
  have f3 := blk_frozen HN.out 3
  obtain ⟨r1, -⟩ := row_at HRb.out i hlt
  rw [HVAL.out] at r1
  go_region
  change Exit.then _ _ _ _ ((retW Wb n8 false 0 q (.slice none 0 0)).drew)
  have HC := Aside0.mk (show (retW Wb n8 false 0 q (.slice none 0 0)).drew.heap[n8]? = some (.cells (rC false 0 q (.slice none 0 0)) 27 (0, 0)) from ret_rt HN.out _ _ _ _)
  have HRc := Aside0.mk (Kd.R_drew (ret_R HN.out false 0 q (.slice none 0 0) HRb.out))
  have HDc : Aside0 (DoW w ((retW Wb n8 false 0 q (.slice none 0 0)).drew) o (rC false 0 0 (.slice none 0 0))) := ⟨HD2.out.next (ret_by _ _ _ _ _ _) (by have := HS.out; simp; omega) (by have := HS.out; simp; omega)⟩
  have HBc : Aside0 (Below w.heap.size w ((retW Wb n8 false 0 q (.slice none 0 0)).drew)) := ⟨below_ret HB2.out (by have := HS.out; omega)⟩
  clear a0 a1 a2 a3 c0 c1 c2 c3 f0 f1 f2 f3 r1 HN HRb HD2 HB2 HR
  generalize (retW Wb n8 false 0 q (.slice none 0 0)).drew = Wc at HC HRc HDc HBc ⊢
  have a0 := HDc.out.x0
  have a1 := HDc.out.x1
  have a2 := HDc.out.x2
  have a3 := HDc.out.x3
  have c0 : Wc.cell? ⟨n8, 0, none⟩ = some (.bool false) := (blk_cell HC.out 0).trans rfl
  have c1 : Wc.cell? ⟨n8, 1, none⟩ = some (.int .i64 0) := (blk_cell HC.out 1).trans rfl
  have c2 : Wc.cell? ⟨n8, 2, none⟩ = some (.int .i64 q) := (blk_cell HC.out 2).trans rfl
  have c3 : Wc.cell? ⟨n8, 3, none⟩ = some (.slice none 0 0) := (blk_cell HC.out 3).trans rfl
  have d0 : Wc.cell? ⟨w.heap.size + 1, 0, none⟩ = some (.bool false) := (blk_cell HDc.out.rt 0).trans rfl
  have d1 : Wc.cell? ⟨w.heap.size + 1, 1, none⟩ = some (.int .i64 0) := (blk_cell HDc.out.rt 1).trans rfl
  have d2 : Wc.cell? ⟨w.heap.size + 1, 2, none⟩ = some (.int .i64 0) := (blk_cell HDc.out.rt 2).trans rfl
  have d3 : Wc.cell? ⟨w.heap.size + 1, 3, none⟩ = some (.slice none 0 0) := (blk_cell HDc.out.rt 3).trans rfl
  have f0 := blk_frozen HDc.out.rt 0
  have f1 := blk_frozen HDc.out.rt 1
  have f2 := blk_frozen HDc.out.rt 2
  have f3 := blk_frozen HDc.out.rt 3
  go_wp2
  go_region
  change Exit.then _ _ _ _ ((retW Wc (w.heap.size + 1) false 0 q (.slice none 0 0)).drew)
  have hrt := ret_rt HDc.out.rt false 0 q (.slice none 0 0)
  have HE : Aside0 (DoP w base (.slice (some ⟨g, 0, none⟩) ms.length c) _ ⟨false, 0, q, []⟩ (.returned (.tuple #[_, .agg #[.bool false, .int .i64 0, .int .i64 q, .slice none 0 0]])) ((retW Wc (w.heap.size + 1) false 0 q (.slice none 0 0)).drew)) := ⟨⟨_, _, rfl, Kd.R_drew (ret_R HDc.out.rt _ _ _ _ HRc.out), Kd.R_nil _ _ _ _ _, retd_grown (grown_below HBc.out _) (by omega), .inl rfl⟩⟩
  clear a0 a1 a2 a3 c0 c1 c2 c3 d0 d1 d2 d3 f0 f1 f2 f3
  go_wp2
  refine bodyPost_ret (results_list (rs := [.tmp 4, .cell 5 27]) rfl (by simp) (.tmp (.cell (w.heap.size + 1) 27 #[.bool false, .int .i64 0, .int .i64 q, .slice none 0 0] (0, 0) _ rfl hrt Try.underlying27 rfl (by kernel_rfl) .nil))) rfl ?_
  exact HE.out
set_option maxHeartbeats 4000000 in
set_option maxRecDepth 100000 in
theorem do_delete_has (A : Option Addr) (c base : Nat) (ms : List S51) (o : S25) (w : World) (hup : Up ms) (hl : ms.length < 1000000000) (hR : Kd.R k51 51 w base (fun _ => True) (.slice A ms.length c) ms) (hbw : base ≤ w.heap.size) (hk : o.f0 = 4) (hh : hasL ms o.f1 = true) :
    Calls Try.prog 41 #[.slice A ms.length c, .agg #[.int .i64 o.f0, .int .i64 o.f1, .int .i64 o.f2, .int .i64 o.f3]] w fun e w' => DoP w base (.slice A ms.length c) (ms.eraseIdx (cntL ms o.f1)) ⟨true, 0, valL ms o.f1, []⟩ e w' := by
  have hu25 := Try.underlying25
  have hu27 := Try.underlying27
  have hu51 := Try.underlying51
  have hch := changes_val o.f0
  rw [decide_eq_true (by omega)] at hch
  have HCH := Aside0.mk hch
  have hfd := find_up ms hup hl o.f1
  rw [hh] at hfd
  have hcl := cnt_le ms o.f1
  have hlt := has_lt hup hh
  have hval := val_rd ms o.f1 hlt
  obtain ⟨q, hq⟩ : ∃ q, valL ms o.f1 = q := ⟨_, rfl⟩
  rw [hq] at hval ⊢
  obtain ⟨g, cg, ea, -⟩ := Kd.R_form hR (by omega)
  injection ea with ea _ hcc
  subst hcc
  subst ea
  obtain ⟨i, hi⟩ : ∃ i, cntL ms o.f1 = i := ⟨_, rfl⟩
  rw [hi] at hfd hcl hlt hval
  try rw [hi]
  have HFD := Aside0.mk hfd
  have HR := Aside0.mk hR
  obtain ⟨Wa, hWa⟩ : ∃ Wa, Wa = (w.alloc (.cells #[.int .i64 o.f0, .int .i64 o.f1, .int .i64 o.f2, .int .i64 o.f3] 25)).alloc (.cells #[.bool false, .int .i64 0, .int .i64 0, .slice none 0 0] 27) := ⟨_, rfl⟩
  have hD := DoW.start w o
  rw [← hWa] at hD
  have hBa : Below w.heap.size w Wa := by rw [hWa]; exact below_alloc (below_alloc (Below.refl _ _) _) _
  have HD := Aside0.mk hD
  have HBA := Aside0.mk hBa
  have HWA := Aside0.mk hWa
  obtain ⟨x0, x1, x2, x3, -⟩ := hD
  have k1 : (o.f0 != 3) = true := by simp [hk]
  have k2 : (o.f0 == 4) = true := by simp [hk]
  have k3 : (o.f0 == 3) = false := by simp [hk]
  have HVAL := Aside0.mk hval
  have i0 : (0 : Int) ≤ (i : Int) := by omega
  have i1 : (i : Int) < (ms.length : Int) := by omega
  clear hval hq
  have i2 : IntKind.i64.wrap ((i : Int) + 1) = (i : Int) + 1 := IntWalk.i64_in _ (by omega)
  have HGL := Aside0.mk (Kd.R_lt HR.out g (by simp [Value.ownBlock]))
  clear hk
  clear hWa hch hR hBa hfd hi hh
  go_enter Try.func41, Try.ntmps41
  go_wp2_with (first
    | (go_at_call 23; rw [← HWA.out]; refine (model_Changes.calls o.f0 true Wa HCH.out).mono ?_; rintro e w1 ⟨rfl, hd⟩; have hb := hd.below; have HB1 := Aside0.mk (below_step HBA.out hb); have HD1 := Aside0.mk (HD.out.next (grown_below hb none) (by simp) (by simp)); have y0 := HD1.out.x0; have y1 := HD1.out.x1; have y2 := HD1.out.x2; have y3 := HD1.out.x3; clear hb hd x0 x1 x2 x3)
    | (go_at_call 47; refine (model_find.calls (some ⟨g, 0, none⟩) c ms o.f1 _ _ w1 (Kd.C_below (Kd.R_reads' HR.out).2.2 HB1.out) (Kd.R_reads' HR.out).2.1 HFD.out).mono ?_; rintro e w2 ⟨rfl, hb⟩; have HB2 := Aside0.mk (below_alloc (below_step HB1.out hb) (.cells #[.bool false, .int .i64 0, .int .i64 0, .slice none 0 0] 27)); have HD2 := Aside0.mk ((HD1.out.next (grown_below hb none) (by simp) (by simp)).next (grown_below (below_alloc (Below.refl _ _) (.cells #[.bool false, .int .i64 0, .int .i64 0, .slice none 0 0] 27)) none) (by simp) (by simp)); have HN : Aside0 ((w2.alloc (.cells #[.bool false, .int .i64 0, .int .i64 0, .slice none 0 0] 27)).heap[w2.heap.size]? = some (.cells (rC false 0 0 (.slice none 0 0)) 27 (0, 0))) := ⟨blk_new w2 _⟩; have HS : Aside0 (w.heap.size + 2 ≤ w2.heap.size) := ⟨by have := (Array.getElem?_eq_some_iff.1 (HD1.out.next (grown_below hb none) (by simp) (by simp)).rt).1; omega⟩; have a0 := HD2.out.x0; have a1 := HD2.out.x1; have a2 := HD2.out.x2; have a3 := HD2.out.x3; clear hb y0 y1 y2 y3))
  have HRb := Aside0.mk (Kd.R_below HR.out HB2.out)
  obtain ⟨Wb, hWb⟩ : ∃ Wb, Wb = w2.alloc (.cells #[.bool false, .int .i64 0, .int .i64 0, .slice none 0 0] 27) := ⟨_, rfl⟩
  rw [← hWb] at HB2 HD2 HN a0 a1 a2 a3 HRb ⊢
  clear hWb
  obtain ⟨n8, hn8⟩ : ∃ n8, n8 = w2.heap.size := ⟨_, rfl⟩
  rw [← hn8] at HN HS ⊢
  clear hn8
  have c0 : Wb.cell? ⟨n8, 0, none⟩ = some (.bool false) := (blk_cell HN.out 0).trans rfl
  have c1 : Wb.cell? ⟨n8, 1, none⟩ = some (.int .i64 0) := (blk_cell HN.out 1).trans rfl
  have c2 : Wb.cell? ⟨n8, 2, none⟩ = some (.int .i64 0) := (blk_cell HN.out 2).trans rfl
  have c3 : Wb.cell? ⟨n8, 3, none⟩ = some (.slice none 0 0) := (blk_cell HN.out 3).trans rfl
  have f0 := blk_frozen HN.out 0
  have f1 := blk_frozen HN.out 1
  have f2 := blk_frozen HN.out 2
  have f3 := blk_frozen HN.out 3
  obtain ⟨r1, -⟩ := row_at HRb.out i hlt
  rw [HVAL.out] at r1
  go_region
  change Exit.then _ _ _ _ ((retW Wb n8 true 0 q (.slice none 0 0)).drew)
  have HC := Aside0.mk (show (retW Wb n8 true 0 q (.slice none 0 0)).drew.heap[n8]? = some (.cells (rC true 0 q (.slice none 0 0)) 27 (0, 0)) from ret_rt HN.out _ _ _ _)
  have HRc := Aside0.mk (Kd.R_drew (ret_R HN.out true 0 q (.slice none 0 0) HRb.out))
  have HDc : Aside0 (DoW w ((retW Wb n8 true 0 q (.slice none 0 0)).drew) o (rC false 0 0 (.slice none 0 0))) := ⟨HD2.out.next (ret_by _ _ _ _ _ _) (by have := HS.out; simp; omega) (by have := HS.out; simp; omega)⟩
  have HBc : Aside0 (Below w.heap.size w ((retW Wb n8 true 0 q (.slice none 0 0)).drew)) := ⟨below_ret HB2.out (by have := HS.out; omega)⟩
  clear a0 a1 a2 a3 c0 c1 c2 c3 f0 f1 f2 f3 r1 HN HRb HD2 HB2 HR
  generalize (retW Wb n8 true 0 q (.slice none 0 0)).drew = Wc at HC HRc HDc HBc ⊢
  have a0 := HDc.out.x0
  have a1 := HDc.out.x1
  have a2 := HDc.out.x2
  have a3 := HDc.out.x3
  have c0 : Wc.cell? ⟨n8, 0, none⟩ = some (.bool true) := (blk_cell HC.out 0).trans rfl
  have c1 : Wc.cell? ⟨n8, 1, none⟩ = some (.int .i64 0) := (blk_cell HC.out 1).trans rfl
  have c2 : Wc.cell? ⟨n8, 2, none⟩ = some (.int .i64 q) := (blk_cell HC.out 2).trans rfl
  have c3 : Wc.cell? ⟨n8, 3, none⟩ = some (.slice none 0 0) := (blk_cell HC.out 3).trans rfl
  have d0 : Wc.cell? ⟨w.heap.size + 1, 0, none⟩ = some (.bool false) := (blk_cell HDc.out.rt 0).trans rfl
  have d1 : Wc.cell? ⟨w.heap.size + 1, 1, none⟩ = some (.int .i64 0) := (blk_cell HDc.out.rt 1).trans rfl
  have d2 : Wc.cell? ⟨w.heap.size + 1, 2, none⟩ = some (.int .i64 0) := (blk_cell HDc.out.rt 2).trans rfl
  have d3 : Wc.cell? ⟨w.heap.size + 1, 3, none⟩ = some (.slice none 0 0) := (blk_cell HDc.out.rt 3).trans rfl
  have f0 := blk_frozen HDc.out.rt 0
  have f1 := blk_frozen HDc.out.rt 1
  have f2 := blk_frozen HDc.out.rt 2
  have f3 := blk_frozen HDc.out.rt 3
  go_wp2_with (first
    | (go_at_call 51; refine (delete_calls g c base i ms Wc hlt HRc.out).mono ?_; rintro e w3 ⟨rfl, hR3, hg3⟩; have HR3 := Aside0.mk hR3; have HG3 := Aside0.mk (grown_then (grown_below HBc.out (some g)) hg3); have HD3 := Aside0.mk (HDc.out.next hg3 (by have := HGL.out; simp; omega) (by have := HGL.out; simp; omega)); have HC3 : Aside0 (w3.heap[n8]? = some (.cells (rC true 0 q (.slice none 0 0)) 27 (0, 0))) := ⟨(hg3.block n8 (Array.getElem?_eq_some_iff.1 HC.out).1 (by have := HGL.out; have := HS.out; simp; omega)).trans HC.out⟩; clear hR3 hg3 a0 a1 a2 a3 c0 c1 c2 c3 d0 d1 d2 d3 f0 f1 f2 f3))
  have a0 := HD3.out.x0
  have a1 := HD3.out.x1
  have a2 := HD3.out.x2
  have a3 := HD3.out.x3
  have c0 : w3.cell? ⟨n8, 0, none⟩ = some (.bool true) := (blk_cell HC3.out 0).trans rfl
  have c1 : w3.cell? ⟨n8, 1, none⟩ = some (.int .i64 0) := (blk_cell HC3.out 1).trans rfl
  have c2 : w3.cell? ⟨n8, 2, none⟩ = some (.int .i64 q) := (blk_cell HC3.out 2).trans rfl
  have c3 : w3.cell? ⟨n8, 3, none⟩ = some (.slice none 0 0) := (blk_cell HC3.out 3).trans rfl
  have d0 : w3.cell? ⟨w.heap.size + 1, 0, none⟩ = some (.bool false) := (blk_cell HD3.out.rt 0).trans rfl
  have d1 : w3.cell? ⟨w.heap.size + 1, 1, none⟩ = some (.int .i64 0) := (blk_cell HD3.out.rt 1).trans rfl
  have d2 : w3.cell? ⟨w.heap.size + 1, 2, none⟩ = some (.int .i64 0) := (blk_cell HD3.out.rt 2).trans rfl
  have d3 : w3.cell? ⟨w.heap.size + 1, 3, none⟩ = some (.slice none 0 0) := (blk_cell HD3.out.rt 3).trans rfl
  have f0 := blk_frozen HD3.out.rt 0
  have f1 := blk_frozen HD3.out.rt 1
  have f2 := blk_frozen HD3.out.rt 2
  have f3 := blk_frozen HD3.out.rt 3
  go_region
  change Exit.then _ _ _ _ ((retW w3 (w.heap.size + 1) true 0 q (.slice none 0 0)).drew)
  have hrt := ret_rt HD3.out.rt true 0 q (.slice none 0 0)
  have HE : Aside0 (DoP w base (.slice (some ⟨g, 0, none⟩) ms.length c) _ ⟨true, 0, q, []⟩ (.returned (.tuple #[_, .agg #[.bool true, .int .i64 0, .int .i64 q, .slice none 0 0]])) ((retW w3 (w.heap.size + 1) true 0 q (.slice none 0 0)).drew)) := ⟨⟨_, _, rfl, Kd.R_drew (ret_R HD3.out.rt _ _ _ _ HR3.out), Kd.R_nil _ _ _ _ _, retd_grown HG3.out (by omega), .inl rfl⟩⟩
  clear a0 a1 a2 a3 c0 c1 c2 c3 d0 d1 d2 d3 f0 f1 f2 f3
  go_wp2
  refine bodyPost_ret (results_list (rs := [.tmp 4, .cell 5 27]) rfl (by simp) (.tmp (.cell (w.heap.size + 1) 27 #[.bool true, .int .i64 0, .int .i64 q, .slice none 0 0] (0, 0) _ rfl hrt Try.underlying27 rfl (by kernel_rfl) .nil))) rfl ?_
  exact HE.out
set_option maxHeartbeats 4000000 in
set_option maxRecDepth 100000 in
theorem do_put_has (A : Option Addr) (c base : Nat) (ms : List S51) (o : S25) (w : World) (hup : Up ms) (hl : ms.length < 1000000000) (hR : Kd.R k51 51 w base (fun _ => True) (.slice A ms.length c) ms) (hbw : base ≤ w.heap.size) (hk : o.f0 = 2) (hh : hasL ms o.f1 = true) :
    Calls Try.prog 41 #[.slice A ms.length c, .agg #[.int .i64 o.f0, .int .i64 o.f1, .int .i64 o.f2, .int .i64 o.f3]] w fun e w' => DoP w base (.slice A ms.length c) (ms.modify (cntL ms o.f1) (fun x => { x with f1 := o.f2 })) ⟨true, 0, valL ms o.f1, []⟩ e w' := by
  have hu25 := Try.underlying25
  have hu27 := Try.underlying27
  have hu51 := Try.underlying51
  have hch := changes_val o.f0
  rw [decide_eq_true (by omega)] at hch
  have HCH := Aside0.mk hch
  have hfd := find_up ms hup hl o.f1
  rw [hh] at hfd
  have hcl := cnt_le ms o.f1
  have hlt := has_lt hup hh
  have hval := val_rd ms o.f1 hlt
  obtain ⟨q, hq⟩ : ∃ q, valL ms o.f1 = q := ⟨_, rfl⟩
  rw [hq] at hval ⊢
  obtain ⟨g, cg, ea, -⟩ := Kd.R_form hR (by omega)
  injection ea with ea _ hcc
  subst hcc
  subst ea
  obtain ⟨i, hi⟩ : ∃ i, cntL ms o.f1 = i := ⟨_, rfl⟩
  rw [hi] at hfd hcl hlt hval
  try rw [hi]
  have HFD := Aside0.mk hfd
  have HR := Aside0.mk hR
  obtain ⟨Wa, hWa⟩ : ∃ Wa, Wa = (w.alloc (.cells #[.int .i64 o.f0, .int .i64 o.f1, .int .i64 o.f2, .int .i64 o.f3] 25)).alloc (.cells #[.bool false, .int .i64 0, .int .i64 0, .slice none 0 0] 27) := ⟨_, rfl⟩
  have hD := DoW.start w o
  rw [← hWa] at hD
  have hBa : Below w.heap.size w Wa := by rw [hWa]; exact below_alloc (below_alloc (Below.refl _ _) _) _
  have HD := Aside0.mk hD
  have HBA := Aside0.mk hBa
  have HWA := Aside0.mk hWa
  obtain ⟨x0, x1, x2, x3, -⟩ := hD
  have k1 : (o.f0 != 3) = true := by simp [hk]
  have k2 : (o.f0 == 4) = false := by simp [hk]
  have k3 : (o.f0 == 2) = true := by simp [hk]
  have HVAL := Aside0.mk hval
  have i0 : (0 : Int) ≤ (i : Int) := by omega
  have i1 : (i : Int) < (ms.length : Int) := by omega
  clear hval hq
  have HGL := Aside0.mk (Kd.R_lt HR.out g (by simp [Value.ownBlock]))
  clear hk
  clear hWa hch hR hBa hfd hi hh
  go_enter Try.func41, Try.ntmps41
  go_wp2_with (first
    | (go_at_call 23; rw [← HWA.out]; refine (model_Changes.calls o.f0 true Wa HCH.out).mono ?_; rintro e w1 ⟨rfl, hd⟩; have hb := hd.below; have HB1 := Aside0.mk (below_step HBA.out hb); have HD1 := Aside0.mk (HD.out.next (grown_below hb none) (by simp) (by simp)); have y0 := HD1.out.x0; have y1 := HD1.out.x1; have y2 := HD1.out.x2; have y3 := HD1.out.x3; clear hb hd x0 x1 x2 x3)
    | (go_at_call 47; refine (model_find.calls (some ⟨g, 0, none⟩) c ms o.f1 _ _ w1 (Kd.C_below (Kd.R_reads' HR.out).2.2 HB1.out) (Kd.R_reads' HR.out).2.1 HFD.out).mono ?_; rintro e w2 ⟨rfl, hb⟩; have HB2 := Aside0.mk (below_alloc (below_step HB1.out hb) (.cells #[.bool false, .int .i64 0, .int .i64 0, .slice none 0 0] 27)); have HD2 := Aside0.mk ((HD1.out.next (grown_below hb none) (by simp) (by simp)).next (grown_below (below_alloc (Below.refl _ _) (.cells #[.bool false, .int .i64 0, .int .i64 0, .slice none 0 0] 27)) none) (by simp) (by simp)); have HN : Aside0 ((w2.alloc (.cells #[.bool false, .int .i64 0, .int .i64 0, .slice none 0 0] 27)).heap[w2.heap.size]? = some (.cells (rC false 0 0 (.slice none 0 0)) 27 (0, 0))) := ⟨blk_new w2 _⟩; have HS : Aside0 (w.heap.size + 2 ≤ w2.heap.size) := ⟨by have := (Array.getElem?_eq_some_iff.1 (HD1.out.next (grown_below hb none) (by simp) (by simp)).rt).1; omega⟩; have a0 := HD2.out.x0; have a1 := HD2.out.x1; have a2 := HD2.out.x2; have a3 := HD2.out.x3; clear hb y0 y1 y2 y3))
  have HRb := Aside0.mk (Kd.R_below HR.out HB2.out)
  obtain ⟨Wb, hWb⟩ : ∃ Wb, Wb = w2.alloc (.cells #[.bool false, .int .i64 0, .int .i64 0, .slice none 0 0] 27) := ⟨_, rfl⟩
  rw [← hWb] at HB2 HD2 HN a0 a1 a2 a3 HRb ⊢
  clear hWb
  obtain ⟨n8, hn8⟩ : ∃ n8, n8 = w2.heap.size := ⟨_, rfl⟩
  rw [← hn8] at HN HS ⊢
  clear hn8
  have c0 : Wb.cell? ⟨n8, 0, none⟩ = some (.bool false) := (blk_cell HN.out 0).trans rfl
  have c1 : Wb.cell? ⟨n8, 1, none⟩ = some (.int .i64 0) := (blk_cell HN.out 1).trans rfl
  have c2 : Wb.cell? ⟨n8, 2, none⟩ = some (.int .i64 0) := (blk_cell HN.out 2).trans rfl
  have c3 : Wb.cell? ⟨n8, 3, none⟩ = some (.slice none 0 0) := (blk_cell HN.out 3).trans rfl
  have f0 := blk_frozen HN.out 0
  have f1 := blk_frozen HN.out 1
  have f2 := blk_frozen HN.out 2
  have f3 := blk_frozen HN.out 3
  obtain ⟨r1, -⟩ := row_at HRb.out i hlt
  rw [HVAL.out] at r1
  go_region
  change Exit.then _ _ _ _ ((retW Wb n8 true 0 q (.slice none 0 0)).drew)
  have HC := Aside0.mk (show (retW Wb n8 true 0 q (.slice none 0 0)).drew.heap[n8]? = some (.cells (rC true 0 q (.slice none 0 0)) 27 (0, 0)) from ret_rt HN.out _ _ _ _)
  have HRc := Aside0.mk (Kd.R_drew (ret_R HN.out true 0 q (.slice none 0 0) HRb.out))
  have HDc : Aside0 (DoW w ((retW Wb n8 true 0 q (.slice none 0 0)).drew) o (rC false 0 0 (.slice none 0 0))) := ⟨HD2.out.next (ret_by _ _ _ _ _ _) (by have := HS.out; simp; omega) (by have := HS.out; simp; omega)⟩
  have HBc : Aside0 (Below w.heap.size w ((retW Wb n8 true 0 q (.slice none 0 0)).drew)) := ⟨below_ret HB2.out (by have := HS.out; omega)⟩
  clear a0 a1 a2 a3 c0 c1 c2 c3 f0 f1 f2 f3 r1 HN HRb HD2 HB2 HR
  generalize (retW Wb n8 true 0 q (.slice none 0 0)).drew = Wc at HC HRc HDc HBc ⊢
  have a0 := HDc.out.x0
  have a1 := HDc.out.x1
  have a2 := HDc.out.x2
  have a3 := HDc.out.x3
  have c0 : Wc.cell? ⟨n8, 0, none⟩ = some (.bool true) := (blk_cell HC.out 0).trans rfl
  have c1 : Wc.cell? ⟨n8, 1, none⟩ = some (.int .i64 0) := (blk_cell HC.out 1).trans rfl
  have c2 : Wc.cell? ⟨n8, 2, none⟩ = some (.int .i64 q) := (blk_cell HC.out 2).trans rfl
  have c3 : Wc.cell? ⟨n8, 3, none⟩ = some (.slice none 0 0) := (blk_cell HC.out 3).trans rfl
  have d0 : Wc.cell? ⟨w.heap.size + 1, 0, none⟩ = some (.bool false) := (blk_cell HDc.out.rt 0).trans rfl
  have d1 : Wc.cell? ⟨w.heap.size + 1, 1, none⟩ = some (.int .i64 0) := (blk_cell HDc.out.rt 1).trans rfl
  have d2 : Wc.cell? ⟨w.heap.size + 1, 2, none⟩ = some (.int .i64 0) := (blk_cell HDc.out.rt 2).trans rfl
  have d3 : Wc.cell? ⟨w.heap.size + 1, 3, none⟩ = some (.slice none 0 0) := (blk_cell HDc.out.rt 3).trans rfl
  have f0 := blk_frozen HDc.out.rt 0
  have f1 := blk_frozen HDc.out.rt 1
  have f2 := blk_frozen HDc.out.rt 2
  have f3 := blk_frozen HDc.out.rt 3
  obtain ⟨r1, r2⟩ := row_at HRc.out i hlt
  go_wp2
  have HR3 := Aside0.mk (set_row HRc.out hlt o.f2)
  have HG3 := Aside0.mk (grown_then (grown_below HBc.out (some g)) (set_by Wc g (i * 2 + 1) (.int .i64 o.f2)))
  have HD3 := Aside0.mk (HDc.out.next (set_by Wc g (i * 2 + 1) (.int .i64 o.f2)) (by have := HGL.out; simp; omega) (by have := HGL.out; simp; omega))
  have HC3 : Aside0 ((Wc.setCell ⟨g, i * 2 + 1, none⟩ (.int .i64 o.f2)).heap[n8]? = some (.cells (rC true 0 q (.slice none 0 0)) 27 (0, 0))) := ⟨((set_by Wc g (i * 2 + 1) (.int .i64 o.f2)).block n8 (Array.getElem?_eq_some_iff.1 HC.out).1 (by have := HGL.out; have := HS.out; simp; omega)).trans HC.out⟩
  clear a0 a1 a2 a3 c0 c1 c2 c3 d0 d1 d2 d3 f0 f1 f2 f3 r1 r2
  generalize Wc.setCell ⟨g, i * 2 + 1, none⟩ (.int .i64 o.f2) = w3 at HR3 HG3 HD3 HC3 ⊢
  have a0 := HD3.out.x0
  have a1 := HD3.out.x1
  have a2 := HD3.out.x2
  have a3 := HD3.out.x3
  have c0 : w3.cell? ⟨n8, 0, none⟩ = some (.bool true) := (blk_cell HC3.out 0).trans rfl
  have c1 : w3.cell? ⟨n8, 1, none⟩ = some (.int .i64 0) := (blk_cell HC3.out 1).trans rfl
  have c2 : w3.cell? ⟨n8, 2, none⟩ = some (.int .i64 q) := (blk_cell HC3.out 2).trans rfl
  have c3 : w3.cell? ⟨n8, 3, none⟩ = some (.slice none 0 0) := (blk_cell HC3.out 3).trans rfl
  have d0 : w3.cell? ⟨w.heap.size + 1, 0, none⟩ = some (.bool false) := (blk_cell HD3.out.rt 0).trans rfl
  have d1 : w3.cell? ⟨w.heap.size + 1, 1, none⟩ = some (.int .i64 0) := (blk_cell HD3.out.rt 1).trans rfl
  have d2 : w3.cell? ⟨w.heap.size + 1, 2, none⟩ = some (.int .i64 0) := (blk_cell HD3.out.rt 2).trans rfl
  have d3 : w3.cell? ⟨w.heap.size + 1, 3, none⟩ = some (.slice none 0 0) := (blk_cell HD3.out.rt 3).trans rfl
  have f0 := blk_frozen HD3.out.rt 0
  have f1 := blk_frozen HD3.out.rt 1
  have f2 := blk_frozen HD3.out.rt 2
  have f3 := blk_frozen HD3.out.rt 3
  go_region
  change Exit.then _ _ _ _ ((retW w3 (w.heap.size + 1) true 0 q (.slice none 0 0)).drew)
  have hrt := ret_rt HD3.out.rt true 0 q (.slice none 0 0)
  have HE : Aside0 (DoP w base (.slice (some ⟨g, 0, none⟩) ms.length c) _ ⟨true, 0, q, []⟩ (.returned (.tuple #[_, .agg #[.bool true, .int .i64 0, .int .i64 q, .slice none 0 0]])) ((retW w3 (w.heap.size + 1) true 0 q (.slice none 0 0)).drew)) := ⟨⟨_, _, rfl, Kd.R_drew (ret_R HD3.out.rt _ _ _ _ HR3.out), Kd.R_nil _ _ _ _ _, retd_grown HG3.out (by omega), .inl rfl⟩⟩
  clear a0 a1 a2 a3 c0 c1 c2 c3 d0 d1 d2 d3 f0 f1 f2 f3
  go_wp2
  refine bodyPost_ret (results_list (rs := [.tmp 4, .cell 5 27]) rfl (by simp) (.tmp (.cell (w.heap.size + 1) 27 #[.bool true, .int .i64 0, .int .i64 q, .slice none 0 0] (0, 0) _ rfl hrt Try.underlying27 rfl (by kernel_rfl) .nil))) rfl ?_
  exact HE.out
set_option maxHeartbeats 4000000 in
set_option maxRecDepth 100000 in
theorem do_delete_no (A : Option Addr) (c base : Nat) (ms : List S51) (o : S25) (w : World) (hup : Up ms) (hl : ms.length < 1000000000) (hR : Kd.R k51 51 w base (fun _ => True) (.slice A ms.length c) ms) (hbw : base ≤ w.heap.size) (hk : o.f0 = 4) (hh : hasL ms o.f1 = false) :
    Calls Try.prog 41 #[.slice A ms.length c, .agg #[.int .i64 o.f0, .int .i64 o.f1, .int .i64 o.f2, .int .i64 o.f3]] w fun e w' => DoP w base (.slice A ms.length c) (ms) ⟨false, 0, 0, []⟩ e w' := by
  have hu25 := Try.underlying25
  have hu27 := Try.underlying27
  have hu51 := Try.underlying51
  have hch := changes_val o.f0
  rw [decide_eq_true (by omega)] at hch
  have HCH := Aside0.mk hch
  have hfd := find_up ms hup hl o.f1
  rw [hh] at hfd
  have hcl := cnt_le ms o.f1
  obtain ⟨i, hi⟩ : ∃ i, cntL ms o.f1 = i := ⟨_, rfl⟩
  rw [hi] at hfd hcl 
  try rw [hi]
  have HFD := Aside0.mk hfd
  have HR := Aside0.mk hR
  obtain ⟨Wa, hWa⟩ : ∃ Wa, Wa = (w.alloc (.cells #[.int .i64 o.f0, .int .i64 o.f1, .int .i64 o.f2, .int .i64 o.f3] 25)).alloc (.cells #[.bool false, .int .i64 0, .int .i64 0, .slice none 0 0] 27) := ⟨_, rfl⟩
  have hD := DoW.start w o
  rw [← hWa] at hD
  have hBa : Below w.heap.size w Wa := by rw [hWa]; exact below_alloc (below_alloc (Below.refl _ _) _) _
  have HD := Aside0.mk hD
  have HBA := Aside0.mk hBa
  have HWA := Aside0.mk hWa
  obtain ⟨x0, x1, x2, x3, -⟩ := hD
  have k1 : (o.f0 == 3) = false := by simp [hk]
  have k2 : (o.f0 == 4) = true := by simp [hk]
  have i0 : (0 : Int) ≤ (i : Int) := by omega
  clear hk
  clear hWa hch hR hBa hfd hi hh
  go_enter Try.func41, Try.ntmps41
  go_wp2_with (first
    | (go_at_call 23; rw [← HWA.out]; refine (model_Changes.calls o.f0 true Wa HCH.out).mono ?_; rintro e w1 ⟨rfl, hd⟩; have hb := hd.below; have HB1 := Aside0.mk (below_step HBA.out hb); have HD1 := Aside0.mk (HD.out.next (grown_below hb none) (by simp) (by simp)); have y0 := HD1.out.x0; have y1 := HD1.out.x1; have y2 := HD1.out.x2; have y3 := HD1.out.x3; clear hb hd x0 x1 x2 x3)
    | (go_at_call 47; refine (model_find.calls A c ms o.f1 _ _ w1 (Kd.C_below (Kd.R_reads' HR.out).2.2 HB1.out) (Kd.R_reads' HR.out).2.1 HFD.out).mono ?_; rintro e w2 ⟨rfl, hb⟩; have HB2 := Aside0.mk (below_alloc (below_step HB1.out hb) (.cells #[.bool false, .int .i64 0, .int .i64 0, .slice none 0 0] 27)); have HD2 := Aside0.mk ((HD1.out.next (grown_below hb none) (by simp) (by simp)).next (grown_below (below_alloc (Below.refl _ _) (.cells #[.bool false, .int .i64 0, .int .i64 0, .slice none 0 0] 27)) none) (by simp) (by simp)); have HN : Aside0 ((w2.alloc (.cells #[.bool false, .int .i64 0, .int .i64 0, .slice none 0 0] 27)).heap[w2.heap.size]? = some (.cells (rC false 0 0 (.slice none 0 0)) 27 (0, 0))) := ⟨blk_new w2 _⟩; have HS : Aside0 (w.heap.size + 2 ≤ w2.heap.size) := ⟨by have := (Array.getElem?_eq_some_iff.1 (HD1.out.next (grown_below hb none) (by simp) (by simp)).rt).1; omega⟩; have a0 := HD2.out.x0; have a1 := HD2.out.x1; have a2 := HD2.out.x2; have a3 := HD2.out.x3; have HNc : Aside0 ((w2.alloc (.cells #[.bool false, .int .i64 0, .int .i64 0, .slice none 0 0] 27)).heap[w2.heap.size]? = some (.cells (rC false 0 0 (.slice none 0 0)) 27 (0, 0))) := ⟨blk_new w2 _⟩; have HBc := Aside0.mk (below_alloc (below_step HB1.out hb) (.cells #[.bool false, .int .i64 0, .int .i64 0, .slice none 0 0] 27)); have HRc := Aside0.mk (Kd.R_below HR.out HBc.out); have HDc := Aside0.mk ((HD1.out.next (grown_below hb none) (by simp) (by simp)).next (grown_below (below_alloc (Below.refl _ _) (.cells #[.bool false, .int .i64 0, .int .i64 0, .slice none 0 0] 27)) none) (by simp) (by simp)); have n1 : ¬ (w.heap.size = w2.heap.size) := (by have := HS.out; omega); have n2 : ¬ (w2.heap.size = w.heap.size) := (by have := HS.out; omega); have c0 := HDc.out.x0; have c1 := HDc.out.x1; have c2 := HDc.out.x2; clear hb y0 y1 y2 y3))
  obtain ⟨Wc, hWc⟩ : ∃ Wc, Wc = (w2.alloc (.cells #[.bool false, .int .i64 0, .int .i64 0, .slice none 0 0] 27)) := ⟨_, rfl⟩
  rw [← hWc] at HNc HRc HDc HBc ⊢
  clear hWc HN HD2 HB2 a0 a1 a2 a3 c0 c1 c2 n1 n2
  obtain ⟨n8, hn8⟩ : ∃ n8, n8 = w2.heap.size := ⟨_, rfl⟩
  rw [← hn8] at HNc HS ⊢
  clear hn8
  have a0 := HDc.out.x0
  have a1 := HDc.out.x1
  have a2 := HDc.out.x2
  have a3 := HDc.out.x3
  have c0 : Wc.cell? ⟨n8, 0, none⟩ = some (.bool false) := (blk_cell HNc.out 0).trans rfl
  have c1 : Wc.cell? ⟨n8, 1, none⟩ = some (.int .i64 0) := (blk_cell HNc.out 1).trans rfl
  have c2 : Wc.cell? ⟨n8, 2, none⟩ = some (.int .i64 0) := (blk_cell HNc.out 2).trans rfl
  have c3 : Wc.cell? ⟨n8, 3, none⟩ = some (.slice none 0 0) := (blk_cell HNc.out 3).trans rfl
  have d0 : Wc.cell? ⟨w.heap.size + 1, 0, none⟩ = some (.bool false) := (blk_cell HDc.out.rt 0).trans rfl
  have d1 : Wc.cell? ⟨w.heap.size + 1, 1, none⟩ = some (.int .i64 0) := (blk_cell HDc.out.rt 1).trans rfl
  have d2 : Wc.cell? ⟨w.heap.size + 1, 2, none⟩ = some (.int .i64 0) := (blk_cell HDc.out.rt 2).trans rfl
  have d3 : Wc.cell? ⟨w.heap.size + 1, 3, none⟩ = some (.slice none 0 0) := (blk_cell HDc.out.rt 3).trans rfl
  have f0 := blk_frozen HDc.out.rt 0
  have f1 := blk_frozen HDc.out.rt 1
  have f2 := blk_frozen HDc.out.rt 2
  have f3 := blk_frozen HDc.out.rt 3
  go_region
  change Exit.then _ _ _ _ ((retW Wc (w.heap.size + 1) false 0 0 (.slice none 0 0)).drew)
  have hrt := ret_rt HDc.out.rt false 0 0 (.slice none 0 0)
  have HE : Aside0 (DoP w base (.slice A ms.length c) _ ⟨false, 0, 0, []⟩ (.returned (.tuple #[_, .agg #[.bool false, .int .i64 0, .int .i64 0, .slice none 0 0]])) ((retW Wc (w.heap.size + 1) false 0 0 (.slice none 0 0)).drew)) := ⟨⟨_, _, rfl, Kd.R_drew (ret_R HDc.out.rt _ _ _ _ HRc.out), Kd.R_nil _ _ _ _ _, retd_grown (grown_below HBc.out _) (by omega), .inl rfl⟩⟩
  clear a0 a1 a2 a3 c0 c1 c2 c3 d0 d1 d2 d3 f0 f1 f2 f3
  go_wp2
  refine bodyPost_ret (results_list (rs := [.tmp 4, .cell 5 27]) rfl (by simp) (.tmp (.cell (w.heap.size + 1) 27 #[.bool false, .int .i64 0, .int .i64 0, .slice none 0 0] (0, 0) _ rfl hrt Try.underlying27 rfl (by kernel_rfl) .nil))) rfl ?_
  exact HE.out
set_option maxHeartbeats 4000000 in
set_option maxRecDepth 100000 in
theorem do_put_no (A : Option Addr) (c base : Nat) (ms : List S51) (o : S25) (w : World) (hup : Up ms) (hl : ms.length < 1000000000) (hR : Kd.R k51 51 w base (fun _ => True) (.slice A ms.length c) ms) (hbw : base ≤ w.heap.size) (hk : o.f0 = 2) (hh : hasL ms o.f1 = false) :
    Calls Try.prog 41 #[.slice A ms.length c, .agg #[.int .i64 o.f0, .int .i64 o.f1, .int .i64 o.f2, .int .i64 o.f3]] w fun e w' => DoP w base (.slice A ms.length c) (ms.insertIdx (cntL ms o.f1) ⟨o.f1, o.f2⟩) ⟨false, 0, 0, []⟩ e w' := by
  have hu25 := Try.underlying25
  have hu27 := Try.underlying27
  have hu51 := Try.underlying51
  have hch := changes_val o.f0
  rw [decide_eq_true (by omega)] at hch
  have HCH := Aside0.mk hch
  have hfd := find_up ms hup hl o.f1
  rw [hh] at hfd
  have hcl := cnt_le ms o.f1
  obtain ⟨i, hi⟩ : ∃ i, cntL ms o.f1 = i := ⟨_, rfl⟩
  rw [hi] at hfd hcl 
  try rw [hi]
  have HFD := Aside0.mk hfd
  have HR := Aside0.mk hR
  obtain ⟨Wa, hWa⟩ : ∃ Wa, Wa = (w.alloc (.cells #[.int .i64 o.f0, .int .i64 o.f1, .int .i64 o.f2, .int .i64 o.f3] 25)).alloc (.cells #[.bool false, .int .i64 0, .int .i64 0, .slice none 0 0] 27) := ⟨_, rfl⟩
  have hD := DoW.start w o
  rw [← hWa] at hD
  have hBa : Below w.heap.size w Wa := by rw [hWa]; exact below_alloc (below_alloc (Below.refl _ _) _) _
  have HD := Aside0.mk hD
  have HBA := Aside0.mk hBa
  have HWA := Aside0.mk hWa
  obtain ⟨x0, x1, x2, x3, -⟩ := hD
  have k1 : (o.f0 == 3) = false := by simp [hk]
  have k2 : (o.f0 == 4) = false := by simp [hk]
  have i0 : (0 : Int) ≤ (i : Int) := by omega
  clear hk
  clear hWa hch hR hBa hfd hi hh
  go_enter Try.func41, Try.ntmps41
  go_wp2_with (first
    | (go_at_call 23; rw [← HWA.out]; refine (model_Changes.calls o.f0 true Wa HCH.out).mono ?_; rintro e w1 ⟨rfl, hd⟩; have hb := hd.below; have HB1 := Aside0.mk (below_step HBA.out hb); have HD1 := Aside0.mk (HD.out.next (grown_below hb none) (by simp) (by simp)); have y0 := HD1.out.x0; have y1 := HD1.out.x1; have y2 := HD1.out.x2; have y3 := HD1.out.x3; clear hb hd x0 x1 x2 x3)
    | (go_at_call 47; refine (model_find.calls A c ms o.f1 _ _ w1 (Kd.C_below (Kd.R_reads' HR.out).2.2 HB1.out) (Kd.R_reads' HR.out).2.1 HFD.out).mono ?_; rintro e w2 ⟨rfl, hb⟩; have HB2 := Aside0.mk (below_alloc (below_step HB1.out hb) (.cells #[.bool false, .int .i64 0, .int .i64 0, .slice none 0 0] 27)); have HD2 := Aside0.mk ((HD1.out.next (grown_below hb none) (by simp) (by simp)).next (grown_below (below_alloc (Below.refl _ _) (.cells #[.bool false, .int .i64 0, .int .i64 0, .slice none 0 0] 27)) none) (by simp) (by simp)); have HN : Aside0 ((w2.alloc (.cells #[.bool false, .int .i64 0, .int .i64 0, .slice none 0 0] 27)).heap[w2.heap.size]? = some (.cells (rC false 0 0 (.slice none 0 0)) 27 (0, 0))) := ⟨blk_new w2 _⟩; have HS : Aside0 (w.heap.size + 2 ≤ w2.heap.size) := ⟨by have := (Array.getElem?_eq_some_iff.1 (HD1.out.next (grown_below hb none) (by simp) (by simp)).rt).1; omega⟩; have a0 := HD2.out.x0; have a1 := HD2.out.x1; have a2 := HD2.out.x2; have a3 := HD2.out.x3; have HNc : Aside0 ((w2.alloc (.cells #[.bool false, .int .i64 0, .int .i64 0, .slice none 0 0] 27)).heap[w2.heap.size]? = some (.cells (rC false 0 0 (.slice none 0 0)) 27 (0, 0))) := ⟨blk_new w2 _⟩; have HBc := Aside0.mk (below_alloc (below_step HB1.out hb) (.cells #[.bool false, .int .i64 0, .int .i64 0, .slice none 0 0] 27)); have HRc := Aside0.mk (Kd.R_below HR.out HBc.out); have HDc := Aside0.mk ((HD1.out.next (grown_below hb none) (by simp) (by simp)).next (grown_below (below_alloc (Below.refl _ _) (.cells #[.bool false, .int .i64 0, .int .i64 0, .slice none 0 0] 27)) none) (by simp) (by simp)); have n1 : ¬ (w.heap.size = w2.heap.size) := (by have := HS.out; omega); have n2 : ¬ (w2.heap.size = w.heap.size) := (by have := HS.out; omega); have c0 := HDc.out.x0; have c1 := HDc.out.x1; have c2 := HDc.out.x2; clear hb y0 y1 y2 y3)
    | (go_at_call 52; obtain ⟨Wc, hWc⟩ : ∃ Wc, Wc = (w2.alloc (.cells #[.bool false, .int .i64 0, .int .i64 0, .slice none 0 0] 27)) := ⟨_, rfl⟩; have hsz : Wc.heap.size = w2.heap.size + 1 := (by rw [hWc]; simp [World.setCell, World.alloc_eq]); rw [← hWc] at HNc HRc HDc HBc ⊢; clear hWc; have hbl : (Wc.alloc (.cells #[.int .i64 o.f1, .int .i64 o.f2] 51)).heap[w2.heap.size + 1]? = some (.cells #[.int .i64 o.f1, .int .i64 o.f2] 51 (0, 0)) := (by rw [← hsz]; exact blk_new _ _); have HBd := Aside0.mk (below_alloc HBc.out (.cells #[.int .i64 o.f1, .int .i64 o.f2] 51)); refine (insert_calls A c base i (w2.heap.size + 1) ms ⟨o.f1, o.f2⟩ (Wc.alloc (.cells #[.int .i64 o.f1, .int .i64 o.f2] 51)) hcl hl (Kd.R_alloc HRc.out _) (Nat.le_trans hbw HBd.out.size) hbl (fun h => by have h1 := Kd.R_lt HR.out _ h.symm; have := HS.out; omega)).mono ?_; rintro e w3 ⟨v3, rfl, hR3, hg3, hat3⟩; have HR3 := Aside0.mk hR3; have HA3 := Aside0.mk hat3; have HG3 := Aside0.mk (grown_then (grown_below HBd.out _) hg3); have HD3 := Aside0.mk ((HDc.out.next (grown_below (below_alloc (Below.refl _ _) (.cells #[.int .i64 o.f1, .int .i64 o.f2] 51)) none) (by simp) (by simp)).next hg3 (fun h => by have h1 := Kd.R_lt HR.out _ h.symm; omega) (fun h => by have h1 := Kd.R_lt HR.out _ h.symm; omega)); have HC3 : Aside0 (w3.heap[w2.heap.size]? = some (.cells (rC false 0 0 (.slice none 0 0)) 27 (0, 0))) := ⟨(hg3.block w2.heap.size (Nat.lt_trans (Array.getElem?_eq_some_iff.1 HNc.out).1 (alloc_lt _ _)) (fun h => by have h1 := Kd.R_lt HR.out _ h.symm; have := HS.out; omega)).trans (blk_alloc HNc.out _)⟩; clear hsz hbl hR3 hg3 hat3 a0 a1 a2 a3 c0 c1 c2 n1 n2))
  obtain ⟨n8, hn8⟩ : ∃ n8, n8 = w2.heap.size := ⟨_, rfl⟩
  rw [← hn8] at HC3 HS ⊢
  clear hn8
  have a0 := HD3.out.x0
  have a1 := HD3.out.x1
  have a2 := HD3.out.x2
  have a3 := HD3.out.x3
  have c0 : w3.cell? ⟨n8, 0, none⟩ = some (.bool false) := (blk_cell HC3.out 0).trans rfl
  have c1 : w3.cell? ⟨n8, 1, none⟩ = some (.int .i64 0) := (blk_cell HC3.out 1).trans rfl
  have c2 : w3.cell? ⟨n8, 2, none⟩ = some (.int .i64 0) := (blk_cell HC3.out 2).trans rfl
  have c3 : w3.cell? ⟨n8, 3, none⟩ = some (.slice none 0 0) := (blk_cell HC3.out 3).trans rfl
  have d0 : w3.cell? ⟨w.heap.size + 1, 0, none⟩ = some (.bool false) := (blk_cell HD3.out.rt 0).trans rfl
  have d1 : w3.cell? ⟨w.heap.size + 1, 1, none⟩ = some (.int .i64 0) := (blk_cell HD3.out.rt 1).trans rfl
  have d2 : w3.cell? ⟨w.heap.size + 1, 2, none⟩ = some (.int .i64 0) := (blk_cell HD3.out.rt 2).trans rfl
  have d3 : w3.cell? ⟨w.heap.size + 1, 3, none⟩ = some (.slice none 0 0) := (blk_cell HD3.out.rt 3).trans rfl
  have f0 := blk_frozen HD3.out.rt 0
  have f1 := blk_frozen HD3.out.rt 1
  have f2 := blk_frozen HD3.out.rt 2
  have f3 := blk_frozen HD3.out.rt 3
  go_region
  change Exit.then _ _ _ _ ((retW w3 (w.heap.size + 1) false 0 0 (.slice none 0 0)).drew)
  have hrt := ret_rt HD3.out.rt false 0 0 (.slice none 0 0)
  have HE : Aside0 (DoP w base (.slice A ms.length c) _ ⟨false, 0, 0, []⟩ (.returned (.tuple #[v3, .agg #[.bool false, .int .i64 0, .int .i64 0, .slice none 0 0]])) ((retW w3 (w.heap.size + 1) false 0 0 (.slice none 0 0)).drew)) := ⟨⟨_, _, rfl, Kd.R_drew (ret_R HD3.out.rt _ _ _ _ HR3.out), Kd.R_nil _ _ _ _ _, retd_grown HG3.out (by omega), (HA3.out.elim .inl (fun ⟨k, h1, h2⟩ => .inr ⟨k, h1, Nat.le_trans HBd.out.size h2⟩))⟩⟩
  clear a0 a1 a2 a3 c0 c1 c2 c3 d0 d1 d2 d3 f0 f1 f2 f3
  go_wp2
  refine bodyPost_ret (results_list (rs := [.tmp 4, .cell 5 27]) rfl (by simp) (.tmp (.cell (w.heap.size + 1) 27 #[.bool false, .int .i64 0, .int .i64 0, .slice none 0 0] (0, 0) _ rfl hrt Try.underlying27 rfl (by kernel_rfl) .nil))) rfl ?_
  exact HE.out
set_option maxHeartbeats 4000000 in
set_option maxRecDepth 100000 in
theorem do_absent_no (A : Option Addr) (c base : Nat) (ms : List S51) (o : S25) (w : World) (hup : Up ms) (hl : ms.length < 1000000000) (hR : Kd.R k51 51 w base (fun _ => True) (.slice A ms.length c) ms) (hbw : base ≤ w.heap.size) (hk : o.f0 = 3) (hh : hasL ms o.f1 = false) :
    Calls Try.prog 41 #[.slice A ms.length c, .agg #[.int .i64 o.f0, .int .i64 o.f1, .int .i64 o.f2, .int .i64 o.f3]] w fun e w' => DoP w base (.slice A ms.length c) (ms.insertIdx (cntL ms o.f1) ⟨o.f1, o.f2⟩) ⟨true, 0, 0, []⟩ e w' := by
  have hu25 := Try.underlying25
  have hu27 := Try.underlying27
  have hu51 := Try.underlying51
  have hch := changes_val o.f0
  rw [decide_eq_true (by omega)] at hch
  have HCH := Aside0.mk hch
  have hfd := find_up ms hup hl o.f1
  rw [hh] at hfd
  have hcl := cnt_le ms o.f1
  obtain ⟨i, hi⟩ : ∃ i, cntL ms o.f1 = i := ⟨_, rfl⟩
  rw [hi] at hfd hcl 
  try rw [hi]
  have HFD := Aside0.mk hfd
  have HR := Aside0.mk hR
  obtain ⟨Wa, hWa⟩ : ∃ Wa, Wa = (w.alloc (.cells #[.int .i64 o.f0, .int .i64 o.f1, .int .i64 o.f2, .int .i64 o.f3] 25)).alloc (.cells #[.bool false, .int .i64 0, .int .i64 0, .slice none 0 0] 27) := ⟨_, rfl⟩
  have hD := DoW.start w o
  rw [← hWa] at hD
  have hBa : Below w.heap.size w Wa := by rw [hWa]; exact below_alloc (below_alloc (Below.refl _ _) _) _
  have HD := Aside0.mk hD
  have HBA := Aside0.mk hBa
  have HWA := Aside0.mk hWa
  obtain ⟨x0, x1, x2, x3, -⟩ := hD
  have k1 : (o.f0 == 3) = true := by simp [hk]
  have k2 : (o.f0 == 4) = false := by simp [hk]
  have i0 : (0 : Int) ≤ (i : Int) := by omega
  clear hk
  clear hWa hch hR hBa hfd hi hh
  go_enter Try.func41, Try.ntmps41
  go_wp2_with (first
    | (go_at_call 23; rw [← HWA.out]; refine (model_Changes.calls o.f0 true Wa HCH.out).mono ?_; rintro e w1 ⟨rfl, hd⟩; have hb := hd.below; have HB1 := Aside0.mk (below_step HBA.out hb); have HD1 := Aside0.mk (HD.out.next (grown_below hb none) (by simp) (by simp)); have y0 := HD1.out.x0; have y1 := HD1.out.x1; have y2 := HD1.out.x2; have y3 := HD1.out.x3; clear hb hd x0 x1 x2 x3)
    | (go_at_call 47; refine (model_find.calls A c ms o.f1 _ _ w1 (Kd.C_below (Kd.R_reads' HR.out).2.2 HB1.out) (Kd.R_reads' HR.out).2.1 HFD.out).mono ?_; rintro e w2 ⟨rfl, hb⟩; have HB2 := Aside0.mk (below_alloc (below_step HB1.out hb) (.cells #[.bool false, .int .i64 0, .int .i64 0, .slice none 0 0] 27)); have HD2 := Aside0.mk ((HD1.out.next (grown_below hb none) (by simp) (by simp)).next (grown_below (below_alloc (Below.refl _ _) (.cells #[.bool false, .int .i64 0, .int .i64 0, .slice none 0 0] 27)) none) (by simp) (by simp)); have HN : Aside0 ((w2.alloc (.cells #[.bool false, .int .i64 0, .int .i64 0, .slice none 0 0] 27)).heap[w2.heap.size]? = some (.cells (rC false 0 0 (.slice none 0 0)) 27 (0, 0))) := ⟨blk_new w2 _⟩; have HS : Aside0 (w.heap.size + 2 ≤ w2.heap.size) := ⟨by have := (Array.getElem?_eq_some_iff.1 (HD1.out.next (grown_below hb none) (by simp) (by simp)).rt).1; omega⟩; have a0 := HD2.out.x0; have a1 := HD2.out.x1; have a2 := HD2.out.x2; have a3 := HD2.out.x3; have HNc : Aside0 ((w2.alloc (.cells #[.bool true, .int .i64 0, .int .i64 0, .slice none 0 0] 27)).heap[w2.heap.size]? = some (.cells (rC true 0 0 (.slice none 0 0)) 27 (0, 0))) := ⟨blk_new w2 _⟩; have HBc := Aside0.mk (below_alloc (below_step HB1.out hb) (.cells #[.bool true, .int .i64 0, .int .i64 0, .slice none 0 0] 27)); have HRc := Aside0.mk (Kd.R_below HR.out HBc.out); have HDc := Aside0.mk ((HD1.out.next (grown_below hb none) (by simp) (by simp)).next (grown_below (below_alloc (Below.refl _ _) (.cells #[.bool true, .int .i64 0, .int .i64 0, .slice none 0 0] 27)) none) (by simp) (by simp)); have n1 : ¬ (w.heap.size = w2.heap.size) := (by have := HS.out; omega); have n2 : ¬ (w2.heap.size = w.heap.size) := (by have := HS.out; omega); have c0 := HDc.out.x0; have c1 := HDc.out.x1; have c2 := HDc.out.x2; clear hb y0 y1 y2 y3)
    | (go_at_call 52; obtain ⟨Wc, hWc⟩ : ∃ Wc, Wc = (w2.alloc (.cells #[.bool true, .int .i64 0, .int .i64 0, .slice none 0 0] 27)) := ⟨_, rfl⟩; have hsz : Wc.heap.size = w2.heap.size + 1 := (by rw [hWc]; simp [World.setCell, World.alloc_eq]); rw [← hWc] at HNc HRc HDc HBc ⊢; clear hWc; have hbl : (Wc.alloc (.cells #[.int .i64 o.f1, .int .i64 o.f2] 51)).heap[w2.heap.size + 1]? = some (.cells #[.int .i64 o.f1, .int .i64 o.f2] 51 (0, 0)) := (by rw [← hsz]; exact blk_new _ _); have HBd := Aside0.mk (below_alloc HBc.out (.cells #[.int .i64 o.f1, .int .i64 o.f2] 51)); refine (insert_calls A c base i (w2.heap.size + 1) ms ⟨o.f1, o.f2⟩ (Wc.alloc (.cells #[.int .i64 o.f1, .int .i64 o.f2] 51)) hcl hl (Kd.R_alloc HRc.out _) (Nat.le_trans hbw HBd.out.size) hbl (fun h => by have h1 := Kd.R_lt HR.out _ h.symm; have := HS.out; omega)).mono ?_; rintro e w3 ⟨v3, rfl, hR3, hg3, hat3⟩; have HR3 := Aside0.mk hR3; have HA3 := Aside0.mk hat3; have HG3 := Aside0.mk (grown_then (grown_below HBd.out _) hg3); have HD3 := Aside0.mk ((HDc.out.next (grown_below (below_alloc (Below.refl _ _) (.cells #[.int .i64 o.f1, .int .i64 o.f2] 51)) none) (by simp) (by simp)).next hg3 (fun h => by have h1 := Kd.R_lt HR.out _ h.symm; omega) (fun h => by have h1 := Kd.R_lt HR.out _ h.symm; omega)); have HC3 : Aside0 (w3.heap[w2.heap.size]? = some (.cells (rC true 0 0 (.slice none 0 0)) 27 (0, 0))) := ⟨(hg3.block w2.heap.size (Nat.lt_trans (Array.getElem?_eq_some_iff.1 HNc.out).1 (alloc_lt _ _)) (fun h => by have h1 := Kd.R_lt HR.out _ h.symm; have := HS.out; omega)).trans (blk_alloc HNc.out _)⟩; clear hsz hbl hR3 hg3 hat3 a0 a1 a2 a3 c0 c1 c2 n1 n2))
  obtain ⟨n8, hn8⟩ : ∃ n8, n8 = w2.heap.size := ⟨_, rfl⟩
  rw [← hn8] at HC3 HS ⊢
  clear hn8
  have a0 := HD3.out.x0
  have a1 := HD3.out.x1
  have a2 := HD3.out.x2
  have a3 := HD3.out.x3
  have c0 : w3.cell? ⟨n8, 0, none⟩ = some (.bool true) := (blk_cell HC3.out 0).trans rfl
  have c1 : w3.cell? ⟨n8, 1, none⟩ = some (.int .i64 0) := (blk_cell HC3.out 1).trans rfl
  have c2 : w3.cell? ⟨n8, 2, none⟩ = some (.int .i64 0) := (blk_cell HC3.out 2).trans rfl
  have c3 : w3.cell? ⟨n8, 3, none⟩ = some (.slice none 0 0) := (blk_cell HC3.out 3).trans rfl
  have d0 : w3.cell? ⟨w.heap.size + 1, 0, none⟩ = some (.bool false) := (blk_cell HD3.out.rt 0).trans rfl
  have d1 : w3.cell? ⟨w.heap.size + 1, 1, none⟩ = some (.int .i64 0) := (blk_cell HD3.out.rt 1).trans rfl
  have d2 : w3.cell? ⟨w.heap.size + 1, 2, none⟩ = some (.int .i64 0) := (blk_cell HD3.out.rt 2).trans rfl
  have d3 : w3.cell? ⟨w.heap.size + 1, 3, none⟩ = some (.slice none 0 0) := (blk_cell HD3.out.rt 3).trans rfl
  have f0 := blk_frozen HD3.out.rt 0
  have f1 := blk_frozen HD3.out.rt 1
  have f2 := blk_frozen HD3.out.rt 2
  have f3 := blk_frozen HD3.out.rt 3
  go_region
  change Exit.then _ _ _ _ ((retW w3 (w.heap.size + 1) true 0 0 (.slice none 0 0)).drew)
  have hrt := ret_rt HD3.out.rt true 0 0 (.slice none 0 0)
  have HE : Aside0 (DoP w base (.slice A ms.length c) _ ⟨true, 0, 0, []⟩ (.returned (.tuple #[v3, .agg #[.bool true, .int .i64 0, .int .i64 0, .slice none 0 0]])) ((retW w3 (w.heap.size + 1) true 0 0 (.slice none 0 0)).drew)) := ⟨⟨_, _, rfl, Kd.R_drew (ret_R HD3.out.rt _ _ _ _ HR3.out), Kd.R_nil _ _ _ _ _, retd_grown HG3.out (by omega), (HA3.out.elim .inl (fun ⟨k, h1, h2⟩ => .inr ⟨k, h1, Nat.le_trans HBd.out.size h2⟩))⟩⟩
  clear a0 a1 a2 a3 c0 c1 c2 c3 d0 d1 d2 d3 f0 f1 f2 f3
  go_wp2
  refine bodyPost_ret (results_list (rs := [.tmp 4, .cell 5 27]) rfl (by simp) (.tmp (.cell (w.heap.size + 1) 27 #[.bool true, .int .i64 0, .int .i64 0, .slice none 0 0] (0, 0) _ rfl hrt Try.underlying27 rfl (by kernel_rfl) .nil))) rfl ?_
  exact HE.out
theorem do_calls (A : Option Addr) (c base : Nat) (ms : List S51) (o : S25) (w : World) (hup : Up ms) (hl : ms.length < 1000000000) (hR : Kd.R k51 51 w base (fun _ => True) (.slice A ms.length c) ms) (hbw : base ≤ w.heap.size) :
    Calls Try.prog 41 #[.slice A ms.length c, .agg #[.int .i64 o.f0, .int .i64 o.f1, .int .i64 o.f2, .int .i64 o.f3]] w fun e w' => DoP w base (.slice A ms.length c) (doL ms o).1 (doL ms o).2 e w' := by
  by_cases hk : o.f0 = 2 ∨ o.f0 = 3 ∨ o.f0 = 4
  rotate_left
  · have : doL ms o = (ms, readL ms o) := by unfold doL; rw [if_neg hk]
    rw [this]
    exact do_read A c base ms o w hup hl hR hbw hk
  cases hh : hasL ms o.f1 with
  | true =>
    rcases hk with hk | hk | hk
    · have : doL ms o = (ms.modify (cntL ms o.f1) (fun x => { x with f1 := o.f2 }), ⟨true, 0, valL ms o.f1, []⟩) := by unfold doL; simp [hk, hh]
      rw [this]
      exact do_put_has A c base ms o w hup hl hR hbw hk hh
    · have : doL ms o = (ms, ⟨false, 0, valL ms o.f1, []⟩) := by unfold doL; simp [hk, hh]
      rw [this]
      exact do_absent_has A c base ms o w hup hl hR hbw hk hh
    · have : doL ms o = (ms.eraseIdx (cntL ms o.f1), ⟨true, 0, valL ms o.f1, []⟩) := by unfold doL; simp [hk, hh]
      rw [this]
      exact do_delete_has A c base ms o w hup hl hR hbw hk hh
  | false =>
    rcases hk with hk | hk | hk
    · have : doL ms o = (ms.insertIdx (cntL ms o.f1) ⟨o.f1, o.f2⟩, ⟨false, 0, 0, []⟩) := by unfold doL; simp [hk, hh]
      rw [this]
      exact do_put_no A c base ms o w hup hl hR hbw hk hh
    · have : doL ms o = (ms.insertIdx (cntL ms o.f1) ⟨o.f1, o.f2⟩, ⟨true, 0, 0, []⟩) := by unfold doL; simp [hk, hh]
      rw [this]
      exact do_absent_no A c base ms o w hup hl hR hbw hk hh
    · have : doL ms o = (ms, ⟨false, 0, 0, []⟩) := by unfold doL; simp [hk, hh]
      rw [this]
      exact do_delete_no A c base ms o w hup hl hR hbw hk hh
end Go.Proofs.Ytanlnfcjdjamaaa.P
