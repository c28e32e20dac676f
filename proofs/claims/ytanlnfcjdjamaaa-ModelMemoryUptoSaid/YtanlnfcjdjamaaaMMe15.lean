/- P.modelMemory_holds, part 16 of 37: the contracts of the Go functions that the law calls, its own walk, and its plain law, for every input that the statement speaks of. -/
import Derived.Test.YtanlnfcjdjamaaaMMe14
import Derived.Test.YtanlnfcjdjamaaaMMe10
import Derived.RegionTactic
import Derived.ChangeAlike
import Derived.Outline
import Derived.Test.YtanlnfcjdjamaaaMMe2
set_option linter.unusedVariables false
set_option linter.unusedSimpArgs false
/- E8A -/
namespace Go.Proofs.Ytanlnfcjdjamaaa.P
open Go.RowKit Go.Proofs.YtanlnfcjdjamaaaW.PrintWords Go.Proofs.YtanlnfcjdjamaaaW.PrintLast Go.Proofs.YtanlnfcjdjamaaaW.PrintMore
def StP (w : World) (m : List S51) (r : S27) (e : Ending) (w' : World) : Prop :=
  ∃ v0_ v4_ : Value, e = .returned (.tuple #[v0_, .agg #[.bool r.f0, .int .i64 r.f1, .int .i64 r.f2, v4_]]) ∧ Kd.R k51 51 w' w.heap.size (fun k_ => some k_ ≠ (v4_ : Value).ownBlock) v0_ m ∧ Kd.R k51 51 w' w.heap.size (fun k_ => some k_ ≠ (v0_ : Value).ownBlock) v4_ r.f3 ∧ Below w.heap.size w w'
structure StI (w W : World) (o : S25) (n8 : Nat) (r : S27) (vP : Value) (ps : List S51) : Prop where
  D : DoW w W o (rC false 0 0 (.slice none 0 0))
  b8 : W.heap[n8]? = some (.cells (rC r.f0 r.f1 r.f2 vP) 27 (0, 0))
  HB : Below w.heap.size w W
  n : w.heap.size + 2 ≤ n8
  P : Kd.R k51 51 W w.heap.size (fun _ => True) vP ps
theorem drop51c (l : List S51) (j : Nat) (h : j < l.length) : l.drop j = J51 l (j : Int) :: l.drop (j + 1) := drop51 l j h
theorem StI.below {w W W2 : World} {o : S25} {n8 : Nat} {r : S27} {vP : Value} {ps : List S51} (h : StI w W o n8 r vP ps) (hb : Below W.heap.size W W2) : StI w W2 o n8 r vP ps :=
  ⟨h.D.next (grown_below hb none) (by simp) (by simp), blk_below h.b8 hb, below_step h.HB hb, h.n, Kd.R_below h.P hb⟩
theorem StI.lt {w W : World} {o : S25} {n8 : Nat} {r : S27} {vP : Value} {ps : List S51} (h : StI w W o n8 r vP ps) : n8 < W.heap.size := (Array.getElem?_eq_some_iff.1 h.b8).1
theorem StI.grown {w W W2 : World} {o : S25} {n8 : Nat} {r : S27} {vP : Value} {ps : List S51} {row : Option Nat} (h : StI w W o n8 r vP ps) (hg : W.grownBy W2 row) (hrow : ∀ k, row = some k → n8 < k) (hP : Kd.R k51 51 W2 w.heap.size (fun _ => True) vP ps) : StI w W2 o n8 r vP ps :=
  ⟨h.D.next hg (fun e => by have := hrow _ e.symm; have := h.n; omega) (fun e => by have := hrow _ e.symm; have := h.n; omega), (hg.block _ h.lt (fun e => by have := hrow _ e.symm; omega)).trans h.b8, h.HB.grown hg h.HB.size (fun k hk => by have := hrow k hk; have := h.n; omega), h.n, hP⟩
theorem below_ret0 {w W : World} {g : Nat} {b : Bool} {x y : Int} {v : Value} (h : Below w.heap.size w W) (hg : w.heap.size ≤ g) : Below w.heap.size w (retW W g b x y v) := by
  have h2 := below_ret (b := b) (x := x) (y := y) (v := v) h hg
  exact ⟨h2.os, h2.tape, h2.output, h2.size, h2.block⟩
theorem ret_by0 (W : World) (g : Nat) (b : Bool) (x y : Int) (v : Value) : W.grownBy (retW W g b x y v) (some g) := by
  have h := ret_by W g b x y v
  exact ⟨h.os, h.tape, h.output, h.size, h.block⟩
set_option maxHeartbeats 4000000 in
set_option maxRecDepth 100000 in
theorem step_1 (A0 : Option Addr) (c0 : Nat) (l0 : List S51) (key val hi : Int) (w : World) (hr0 : Kd.C k51 w A0 l0.length l0) (hc0 : l0.length ≤ c0) (hl : l0.length < 1000000000) :
    Calls Try.prog 39 #[.slice A0 l0.length c0, .agg #[.int .i64 1, .int .i64 key, .int .i64 val, .int .i64 hi]] w fun e w' => StP w (stepL l0 ⟨1, key, val, hi⟩).1 (stepL l0 ⟨1, key, val, hi⟩).2 e w' := by
  have hu25 := Try.underlying25
  have hu27 := Try.underlying27
  have hu51 := Try.underlying51
  obtain ⟨o, ho⟩ : ∃ o : S25, o = ⟨1, key, val, hi⟩ := ⟨_, rfl⟩
  rw [← ho]
  have HO0 : Aside0 (o.f0 = 1 ∧ o.f1 = key ∧ o.f2 = val ∧ o.f3 = hi) := ⟨by rw [ho]; exact ⟨rfl, rfl, rfl, rfl⟩⟩
  obtain ⟨k1, hk1⟩ := look_ev l0 hl key
  obtain ⟨lv, hlv⟩ : ∃ lv, lookL key l0 = lv := ⟨_, rfl⟩
  obtain ⟨q, th⟩ := lv
  have hlk := hk1 k1 (Nat.le_refl _)
  rw [hlv] at hlk
  have HLV := Aside0.mk hlv
  have HLK := Aside0.mk hlk
  clear hk1 hlv hlk
  have hD := DoW.start w o
  obtain ⟨Wa, hWa⟩ : ∃ Wa, Wa = (w.alloc (.cells #[.int .i64 1, .int .i64 key, .int .i64 val, .int .i64 hi] 25)).alloc (.cells #[.bool false, .int .i64 0, .int .i64 0, .slice none 0 0] 27) := ⟨_, rfl⟩
  rw [HO0.out.1, HO0.out.2.1, HO0.out.2.2.1, HO0.out.2.2.2, ← hWa] at hD
  have hBa : Below w.heap.size w Wa := by rw [hWa]; exact below_alloc (below_alloc (Below.refl _ _) _) _
  have HD := Aside0.mk hD
  have HBA := Aside0.mk hBa
  have HWA := Aside0.mk hWa
  have HS0 := Aside0.mk ho
  clear hD hBa hWa ho
  have x0 : Wa.cell? ⟨w.heap.size, 0, none⟩ = some (.int .i64 1) := by rw [← HO0.out.1]; exact HD.out.x0
  have x1 : Wa.cell? ⟨w.heap.size, 1, none⟩ = some (.int .i64 key) := by rw [← HO0.out.2.1]; exact HD.out.x1
  have x2 : Wa.cell? ⟨w.heap.size, 2, none⟩ = some (.int .i64 val) := by rw [← HO0.out.2.2.1]; exact HD.out.x2
  have x3 : Wa.cell? ⟨w.heap.size, 3, none⟩ = some (.int .i64 hi) := by rw [← HO0.out.2.2.2]; exact HD.out.x3
  go_enter Try.func39, Try.ntmps39
  go_wp2_with (first
    | (go_at_call 48; rw [← HWA.out]; refine (larchref06_look.calls k1 A0 c0 l0 key q th Wa (Kd.C_below hr0 HBA.out) hc0 HLK.out).mono ?_; rintro e w1 ⟨rfl, hd⟩; have HB1 := Aside0.mk (below_step HBA.out hd.below); have HD1 := Aside0.mk (HD.out.next (grown_below hd.below none) (by simp) (by simp)); have HDZ := Aside0.mk (HD1.out.next (grown_below (below_alloc (Below.refl w1.heap.size w1) (.cells #[.bool false, .int .i64 0, .int .i64 0, .slice none 0 0] 27)) none) (by simp) (by simp)); have HS : Aside0 (w.heap.size + 2 ≤ w1.heap.size) := ⟨by have := (Array.getElem?_eq_some_iff.1 HD1.out.rt).1; omega⟩; have HI : Aside0 (StI w (w1.alloc (.cells #[.bool th, .int .i64 0, .int .i64 q, .slice none 0 0] 27)) o w1.heap.size ⟨th, 0, q, []⟩ (.slice none 0 0) []) := ⟨⟨HD1.out.next (grown_below (below_alloc (Below.refl _ _) _) none) (by simp) (by simp), blk_new w1 _, below_alloc HB1.out _, HS.out, Kd.R_nil _ _ _ _ _⟩⟩; have y0 : (w1.alloc (.cells #[.bool false, .int .i64 0, .int .i64 0, .slice none 0 0] 27)).cell? ⟨w.heap.size, 0, none⟩ = some (.int .i64 1) := (by rw [← HO0.out.1]; exact HDZ.out.x0); have y1 : (w1.alloc (.cells #[.bool false, .int .i64 0, .int .i64 0, .slice none 0 0] 27)).cell? ⟨w.heap.size, 1, none⟩ = some (.int .i64 key) := (by rw [← HO0.out.2.1]; exact HDZ.out.x1); have y2 : (w1.alloc (.cells #[.bool false, .int .i64 0, .int .i64 0, .slice none 0 0] 27)).cell? ⟨w.heap.size, 2, none⟩ = some (.int .i64 val) := (by rw [← HO0.out.2.2.1]; exact HDZ.out.x2); have y3 : (w1.alloc (.cells #[.bool false, .int .i64 0, .int .i64 0, .slice none 0 0] 27)).cell? ⟨w.heap.size, 3, none⟩ = some (.int .i64 hi) := (by rw [← HO0.out.2.2.2]; exact HDZ.out.x3); clear hd x0 x1 x2 x3))
  go_loopw [9] (fun v9 W => ∃ (j : Nat) (r : S27), v9 = .int .i64 (j : Int) ∧ j ≤ l0.length ∧ Aside0 (stepGo o r (l0.drop j) = stepGo o ⟨th, 0, q, []⟩ l0) ∧ Aside0 (StI w W o w1.heap.size r (.slice none 0 0) []) ∧ Aside0 (r.f3 = [])) (fun v9 _ => l0.length - (intOf v9).toNat)
  case atStart => exact ⟨0, ⟨th, 0, q, []⟩, rfl, Nat.zero_le _, ⟨rfl⟩, HI, ⟨rfl⟩⟩
  case round =>
    clear HI y0 y1 y2 y3
    obtain ⟨j, r, rfl, hj, HG, HI, HP⟩ := hrel
    by_cases hlt : j < l0.length
    · obtain ⟨ad, ea, y0, y1⟩ := at_T51 (Kd.C_below hr0 HI.out.HB) (j : Int) (by omega) (by omega)
      subst ea
      rw [Int.toNat_natCast] at y0 y1
      have d1 : (0 : Int) ≤ (j : Int) := by omega
      have d2 : (j : Int) < (l0.length : Int) := by omega
      have x0 : wr.cell? ⟨w.heap.size, 0, none⟩ = some (.int .i64 1) := by rw [← HO0.out.1]; exact HI.out.D.x0
      have x1 : wr.cell? ⟨w.heap.size, 1, none⟩ = some (.int .i64 key) := by rw [← HO0.out.2.1]; exact HI.out.D.x1
      have x2 : wr.cell? ⟨w.heap.size, 2, none⟩ = some (.int .i64 val) := by rw [← HO0.out.2.2.1]; exact HI.out.D.x2
      have x3 : wr.cell? ⟨w.heap.size, 3, none⟩ = some (.int .i64 hi) := by rw [← HO0.out.2.2.2]; exact HI.out.D.x3
      have b0 : wr.cell? ⟨w1.heap.size, 0, none⟩ = some (.bool r.f0) := (blk_cell HI.out.b8 0).trans rfl
      have b1 : wr.cell? ⟨w1.heap.size, 1, none⟩ = some (.int .i64 r.f1) := (blk_cell HI.out.b8 1).trans rfl
      have b2 : wr.cell? ⟨w1.heap.size, 2, none⟩ = some (.int .i64 r.f2) := (blk_cell HI.out.b8 2).trans rfl
      have b3 : wr.cell? ⟨w1.heap.size, 3, none⟩ = some (.slice none 0 0) := (blk_cell HI.out.b8 3).trans rfl
      have f0 := blk_frozen HI.out.b8 0
      have f1 := blk_frozen HI.out.b8 1
      have f2 := blk_frozen HI.out.b8 2
      have f3 := blk_frozen HI.out.b8 3
      have y0' : (wr.alloc (.cells #[.bool false, .int .i64 0, .int .i64 0, .slice none 0 0] 27)).cell? (ad.add (j * 2)) = some (.int .i64 (J51 l0 (j : Int)).f0) := pw_cell_below (below_alloc (Below.refl _ _) _) y0
      have y1' : (wr.alloc (.cells #[.bool false, .int .i64 0, .int .i64 0, .slice none 0 0] 27)).cell? ⟨(ad.add (j * 2)).block, (ad.add (j * 2)).off + 1, none⟩ = some (.int .i64 (J51 l0 (j : Int)).f1) := pw_cell_below (below_alloc (Below.refl _ _) _) y1
      have hz := blk_new wr (.cells #[.bool false, .int .i64 0, .int .i64 0, .slice none 0 0] 27)
      have z0 : (wr.alloc (.cells #[.bool false, .int .i64 0, .int .i64 0, .slice none 0 0] 27)).cell? ⟨wr.heap.size, 0, none⟩ = some (.bool false) := (blk_cell hz 0).trans rfl
      have z1 : (wr.alloc (.cells #[.bool false, .int .i64 0, .int .i64 0, .slice none 0 0] 27)).cell? ⟨wr.heap.size, 1, none⟩ = some (.int .i64 0) := (blk_cell hz 1).trans rfl
      have z2 : (wr.alloc (.cells #[.bool false, .int .i64 0, .int .i64 0, .slice none 0 0] 27)).cell? ⟨wr.heap.size, 2, none⟩ = some (.int .i64 0) := (blk_cell hz 2).trans rfl
      have z3 : (wr.alloc (.cells #[.bool false, .int .i64 0, .int .i64 0, .slice none 0 0] 27)).cell? ⟨wr.heap.size, 3, none⟩ = some (.slice none 0 0) := (blk_cell hz 3).trans rfl
      have e0 := blk_frozen hz 0
      have e1 := blk_frozen hz 1
      have e2 := blk_frozen hz 2
      have e3 := blk_frozen hz 3
      have HZ := Aside0.mk hz
      clear hz
      go_wp2
      go_region
      obtain ⟨x, hx⟩ : ∃ x, x = J51 l0 (j : Int) := ⟨_, rfl⟩
      rw [← hx] at y0 y1 y0' y1' ⊢
      change Exit.then _ _ _ _ ((wr.alloc (.cells #[.bool true, .int .i64 x.f0, .int .i64 x.f1, .slice none 0 0] 27)).drew)
      clear y0' y1' z0 z1 z2 z3 e0 e1 e2 e3 f0 f1 f2 f3 b0 b1 b2 b3 x0 x1 x2 x3
      have h8n : w1.heap.size < wr.heap.size := (Array.getElem?_eq_some_iff.1 HI.out.b8).1
      have HY : Aside0 (((wr.alloc (.cells #[.bool true, .int .i64 x.f0, .int .i64 x.f1, .slice none 0 0] 27)).drew).heap[wr.heap.size]? = some (.cells (rC true x.f0 x.f1 (.slice none 0 0)) 27 (0, 0))) := ⟨blk_new wr _⟩
      have hbb : Below wr.heap.size wr ((wr.alloc (.cells #[.bool true, .int .i64 x.f0, .int .i64 x.f1, .slice none 0 0] 27)).drew) := below_drew1 (below_alloc (Below.refl _ _) _)
      have HI2 : Aside0 (StI w ((wr.alloc (.cells #[.bool true, .int .i64 x.f0, .int .i64 x.f1, .slice none 0 0] 27)).drew) o w1.heap.size r (.slice none 0 0) []) := ⟨⟨HI.out.D.next (grown_below hbb none) (by simp) (by simp), blk_below HI.out.b8 hbb, below_step HI.out.HB hbb, HI.out.n, Kd.R_nil _ _ _ _ _⟩⟩
      replace y0 := pw_cell_below hbb y0
      replace y1 := pw_cell_below hbb y1
      obtain ⟨n10, hn10⟩ : ∃ n10, n10 = wr.heap.size := ⟨_, rfl⟩
      rw [← hn10] at HY h8n ⊢
      clear hbb HI hn10
      generalize (wr.alloc (.cells #[.bool true, .int .i64 x.f0, .int .i64 x.f1, .slice none 0 0] 27)).drew = Wd at HY HI2 y0 y1 ⊢
      have HXX := Aside0.mk hx
      clear hx
      have x0 : Wd.cell? ⟨w.heap.size, 0, none⟩ = some (.int .i64 1) := by rw [← HO0.out.1]; exact HI2.out.D.x0
      have x1 : Wd.cell? ⟨w.heap.size, 1, none⟩ = some (.int .i64 key) := by rw [← HO0.out.2.1]; exact HI2.out.D.x1
      have x2 : Wd.cell? ⟨w.heap.size, 2, none⟩ = some (.int .i64 val) := by rw [← HO0.out.2.2.1]; exact HI2.out.D.x2
      have x3 : Wd.cell? ⟨w.heap.size, 3, none⟩ = some (.int .i64 hi) := by rw [← HO0.out.2.2.2]; exact HI2.out.D.x3
      have b0 : Wd.cell? ⟨w1.heap.size, 0, none⟩ = some (.bool r.f0) := (blk_cell HI2.out.b8 0).trans rfl
      have b1 : Wd.cell? ⟨w1.heap.size, 1, none⟩ = some (.int .i64 r.f1) := (blk_cell HI2.out.b8 1).trans rfl
      have b2 : Wd.cell? ⟨w1.heap.size, 2, none⟩ = some (.int .i64 r.f2) := (blk_cell HI2.out.b8 2).trans rfl
      have b3 : Wd.cell? ⟨w1.heap.size, 3, none⟩ = some (.slice none 0 0) := (blk_cell HI2.out.b8 3).trans rfl
      have z0 : Wd.cell? ⟨n10, 0, none⟩ = some (.bool true) := (blk_cell HY.out 0).trans rfl
      have z1 : Wd.cell? ⟨n10, 1, none⟩ = some (.int .i64 x.f0) := (blk_cell HY.out 1).trans rfl
      have z2 : Wd.cell? ⟨n10, 2, none⟩ = some (.int .i64 x.f1) := (blk_cell HY.out 2).trans rfl
      have z3 : Wd.cell? ⟨n10, 3, none⟩ = some (.slice none 0 0) := (blk_cell HY.out 3).trans rfl
      have f0 := blk_frozen HI2.out.b8 0
      have f1 := blk_frozen HI2.out.b8 1
      have f2 := blk_frozen HI2.out.b8 2
      have f3 := blk_frozen HI2.out.b8 3
      have hg := HG.out
      rw [drop51c l0 j hlt, ← HXX.out, stepGo] at hg
      rw [show hitB o r x = false from by unfold hitB; simp [HO0.out.1, HO0.out.2.1], if_neg (by decide)] at hg
      have HG2 := Aside0.mk hg
      clear hg
      go_wp2
      go_region
      go_wp2
      go_roundw
      case rel => exact ⟨j + 1, r, by go_num, by omega, HG2, ⟨⟨HI2.out.D.next (grown_below (below_drew1 (Below.refl _ _)) none) (by simp) (by simp), HI2.out.b8, below_drew1 HI2.out.HB, HI2.out.n, Kd.R_nil _ _ _ _ _⟩⟩, HP⟩
      case measure => simp [intOf]; omega
    · obtain rfl : j = l0.length := by omega
      have hg := HG.out
      rw [List.drop_length, stepGo] at hg
      have h0 : step0 l0 o = ⟨th, 0, q, []⟩ := by unfold step0; simp [HO0.out.1, HO0.out.2.1, HO0.out.2.2.2, HLV.out, zR]
      have HRF : Aside0 (r = (stepL l0 o).2) := ⟨by show r = stepGo o (step0 l0 o) l0; rw [h0]; exact hg⟩
      clear hg h0 HG hj hlt
      have x0 : wr.cell? ⟨w.heap.size, 0, none⟩ = some (.int .i64 1) := (by rw [← HO0.out.1]; exact HI.out.D.x0); have x1 : wr.cell? ⟨w.heap.size, 1, none⟩ = some (.int .i64 key) := (by rw [← HO0.out.2.1]; exact HI.out.D.x1); have x2 : wr.cell? ⟨w.heap.size, 2, none⟩ = some (.int .i64 val) := (by rw [← HO0.out.2.2.1]; exact HI.out.D.x2); have x3 : wr.cell? ⟨w.heap.size, 3, none⟩ = some (.int .i64 hi) := (by rw [← HO0.out.2.2.2]; exact HI.out.D.x3); have b0 : wr.cell? ⟨w1.heap.size, 0, none⟩ = some (.bool r.f0) := (blk_cell HI.out.b8 0).trans rfl; have b1 : wr.cell? ⟨w1.heap.size, 1, none⟩ = some (.int .i64 r.f1) := (blk_cell HI.out.b8 1).trans rfl; have b2 : wr.cell? ⟨w1.heap.size, 2, none⟩ = some (.int .i64 r.f2) := (blk_cell HI.out.b8 2).trans rfl; have b3 : wr.cell? ⟨w1.heap.size, 3, none⟩ = some (.slice none 0 0) := (blk_cell HI.out.b8 3).trans rfl; have d0 : wr.cell? ⟨w.heap.size + 1, 0, none⟩ = some (.bool false) := (blk_cell HI.out.D.rt 0).trans rfl; have d1 : wr.cell? ⟨w.heap.size + 1, 1, none⟩ = some (.int .i64 0) := (blk_cell HI.out.D.rt 1).trans rfl; have d2 : wr.cell? ⟨w.heap.size + 1, 2, none⟩ = some (.int .i64 0) := (blk_cell HI.out.D.rt 2).trans rfl; have d3 : wr.cell? ⟨w.heap.size + 1, 3, none⟩ = some (.slice none 0 0) := (blk_cell HI.out.D.rt 3).trans rfl; have f0 := blk_frozen HI.out.D.rt 0; have f1 := blk_frozen HI.out.D.rt 1; have f2 := blk_frozen HI.out.D.rt 2; have f3 := blk_frozen HI.out.D.rt 3
      go_wp2_with (first
        | ((with_reducible refine gate_dst (N := 110) rfl ?_); refine Kd.R_lit k51 _ 51 ?hg (N := 110) ?hd (xs := ([] : List S51)) (inner := []) (ok := fun _ => True) (okp := fun _ => True) ?hr ?hp (fun _ hk => hk) trivial (Below.refl _ _) (Nat.le_refl _) (by simp) ?_; (case hd => rfl); (case hg => rfl); (case hr => first | (go_simp; done) | (go_simp; rfl)); (case hp => exact Reps.none _ _); intro vL wL hoL hbL _ _; have HIL := Aside0.mk (HI.out.below hbL); have HOB := Aside0.mk (Kd.R_base hoL); have HOL := Aside0.mk (Kd.R_lower hoL HI.out.HB.size); clear x0 x1 x2 x3 b0 b1 b2 b3 d0 d1 d2 d3 f0 f1 f2 f3; have x0 : wL.cell? ⟨w.heap.size, 0, none⟩ = some (.int .i64 1) := (by rw [← HO0.out.1]; exact HIL.out.D.x0); have x1 : wL.cell? ⟨w.heap.size, 1, none⟩ = some (.int .i64 key) := (by rw [← HO0.out.2.1]; exact HIL.out.D.x1); have x2 : wL.cell? ⟨w.heap.size, 2, none⟩ = some (.int .i64 val) := (by rw [← HO0.out.2.2.1]; exact HIL.out.D.x2); have x3 : wL.cell? ⟨w.heap.size, 3, none⟩ = some (.int .i64 hi) := (by rw [← HO0.out.2.2.2]; exact HIL.out.D.x3); have b0 : wL.cell? ⟨w1.heap.size, 0, none⟩ = some (.bool r.f0) := (blk_cell HIL.out.b8 0).trans rfl; have b1 : wL.cell? ⟨w1.heap.size, 1, none⟩ = some (.int .i64 r.f1) := (blk_cell HIL.out.b8 1).trans rfl; have b2 : wL.cell? ⟨w1.heap.size, 2, none⟩ = some (.int .i64 r.f2) := (blk_cell HIL.out.b8 2).trans rfl; have b3 : wL.cell? ⟨w1.heap.size, 3, none⟩ = some (.slice none 0 0) := (blk_cell HIL.out.b8 3).trans rfl; have d0 : wL.cell? ⟨w.heap.size + 1, 0, none⟩ = some (.bool false) := (blk_cell HIL.out.D.rt 0).trans rfl; have d1 : wL.cell? ⟨w.heap.size + 1, 1, none⟩ = some (.int .i64 0) := (blk_cell HIL.out.D.rt 1).trans rfl; have d2 : wL.cell? ⟨w.heap.size + 1, 2, none⟩ = some (.int .i64 0) := (blk_cell HIL.out.D.rt 2).trans rfl; have d3 : wL.cell? ⟨w.heap.size + 1, 3, none⟩ = some (.slice none 0 0) := (blk_cell HIL.out.D.rt 3).trans rfl; have f0 := blk_frozen HIL.out.D.rt 0; have f1 := blk_frozen HIL.out.D.rt 1; have f2 := blk_frozen HIL.out.D.rt 2; have f3 := blk_frozen HIL.out.D.rt 3; clear hoL hbL)
        | (at_builtin; refine Kd.R_append_rows k51 (w0 := w) w.heap.size rfl (.tmp 110) (.tmp 111) 22 51 (.agg #[(.int .i64 0), (.int .i64 0)]) 16 rfl Try.underlying22 info51 rfl (by decide) (by omega) vL ([] : List S51) l0 _ _ _ (fun _ => True) (fun _ => False) rfl rfl ?aO ?aR (fun _ _ h => h) (fun _ h => h.elim) ?aF ?aB ?aS ?aL ?_; (case aR => exact Kd.C_below hr0 HIL.out.HB); (case aB => exact HIL.out.HB); (case aF => exact (fun _ _ => trivial)); (case aO => exact HOL.out); (case aS => exact HIL.out.HB.size); (case aL => show (0 + l0.length) * 16 ≤ 140737488355328; omega); intro v12 wF hoF hbF hgF hatF; have HM := Aside0.mk hoF; have HIF := Aside0.mk (HIL.out.grown hgF (fun k hk => by have h1 := HOB.out k hk; have := HI.out.lt; omega) (Kd.R_nil _ _ _ _ _)); clear x0 x1 x2 x3 b0 b1 b2 b3 d0 d1 d2 d3 f0 f1 f2 f3; have x0 : wF.cell? ⟨w.heap.size, 0, none⟩ = some (.int .i64 1) := (by rw [← HO0.out.1]; exact HIF.out.D.x0); have x1 : wF.cell? ⟨w.heap.size, 1, none⟩ = some (.int .i64 key) := (by rw [← HO0.out.2.1]; exact HIF.out.D.x1); have x2 : wF.cell? ⟨w.heap.size, 2, none⟩ = some (.int .i64 val) := (by rw [← HO0.out.2.2.1]; exact HIF.out.D.x2); have x3 : wF.cell? ⟨w.heap.size, 3, none⟩ = some (.int .i64 hi) := (by rw [← HO0.out.2.2.2]; exact HIF.out.D.x3); have b0 : wF.cell? ⟨w1.heap.size, 0, none⟩ = some (.bool r.f0) := (blk_cell HIF.out.b8 0).trans rfl; have b1 : wF.cell? ⟨w1.heap.size, 1, none⟩ = some (.int .i64 r.f1) := (blk_cell HIF.out.b8 1).trans rfl; have b2 : wF.cell? ⟨w1.heap.size, 2, none⟩ = some (.int .i64 r.f2) := (blk_cell HIF.out.b8 2).trans rfl; have b3 : wF.cell? ⟨w1.heap.size, 3, none⟩ = some (.slice none 0 0) := (blk_cell HIF.out.b8 3).trans rfl; have d0 : wF.cell? ⟨w.heap.size + 1, 0, none⟩ = some (.bool false) := (blk_cell HIF.out.D.rt 0).trans rfl; have d1 : wF.cell? ⟨w.heap.size + 1, 1, none⟩ = some (.int .i64 0) := (blk_cell HIF.out.D.rt 1).trans rfl; have d2 : wF.cell? ⟨w.heap.size + 1, 2, none⟩ = some (.int .i64 0) := (blk_cell HIF.out.D.rt 2).trans rfl; have d3 : wF.cell? ⟨w.heap.size + 1, 3, none⟩ = some (.slice none 0 0) := (blk_cell HIF.out.D.rt 3).trans rfl; have f0 := blk_frozen HIF.out.D.rt 0; have f1 := blk_frozen HIF.out.D.rt 1; have f2 := blk_frozen HIF.out.D.rt 2; have f3 := blk_frozen HIF.out.D.rt 3; clear hoF hbF hgF hatF))
      go_region
      change Exit.then _ _ _ _ ((retW wF (w.heap.size + 1) r.f0 r.f1 r.f2 (.slice none 0 0)).drew)
      have hrt := ret_rt HIF.out.D.rt r.f0 r.f1 r.f2 (.slice none 0 0)
      have HE1 := Aside0.mk (Kd.R_drew (ret_R HIF.out.D.rt r.f0 r.f1 r.f2 (.slice none 0 0) HM.out))
      have HE2 := Aside0.mk (below_ret (b := r.f0) (x := r.f1) (y := r.f2) (v := .slice none 0 0) (g := w.heap.size + 1) HIF.out.HB (by omega))
      clear x0 x1 x2 x3 b0 b1 b2 b3 d0 d1 d2 d3 f0 f1 f2 f3
      go_wp2
      refine bodyPost_ret (results_list (rs := [.tmp 4, .cell 5 27]) rfl (by simp) (.tmp (.cell (w.heap.size + 1) 27 #[.bool r.f0, .int .i64 r.f1, .int .i64 r.f2, .slice none 0 0] (0, 0) _ rfl hrt Try.underlying27 rfl (by kernel_rfl) .nil))) rfl ?_
      refine ⟨v12, .slice none 0 0, by rw [← HRF.out]; rfl, ?_, ?_, HE2.out⟩
      · rw [show (stepL l0 o).1 = l0 from by unfold stepL; simp [HO0.out.1, HO0.out.2.1, HO0.out.2.2.1, HLV.out]]
        exact Kd.R_mono HE1.out (fun k _ he => by simp [Value.ownBlock] at he)
      · rw [← HRF.out, HP.out]
        exact Kd.R_nil _ _ _ _ _
set_option maxHeartbeats 4000000 in
set_option maxRecDepth 100000 in
theorem step_2 (A0 : Option Addr) (c0 : Nat) (l0 : List S51) (key val hi : Int) (w : World) (hr0 : Kd.C k51 w A0 l0.length l0) (hc0 : l0.length ≤ c0) (hl : l0.length < 1000000000) :
    Calls Try.prog 39 #[.slice A0 l0.length c0, .agg #[.int .i64 2, .int .i64 key, .int .i64 val, .int .i64 hi]] w fun e w' => StP w (stepL l0 ⟨2, key, val, hi⟩).1 (stepL l0 ⟨2, key, val, hi⟩).2 e w' := by
  have hu25 := Try.underlying25
  have hu27 := Try.underlying27
  have hu51 := Try.underlying51
  obtain ⟨o, ho⟩ : ∃ o : S25, o = ⟨2, key, val, hi⟩ := ⟨_, rfl⟩
  rw [← ho]
  have HO0 : Aside0 (o.f0 = 2 ∧ o.f1 = key ∧ o.f2 = val ∧ o.f3 = hi) := ⟨by rw [ho]; exact ⟨rfl, rfl, rfl, rfl⟩⟩
  obtain ⟨k1, hk1⟩ := look_ev l0 hl key
  obtain ⟨lv, hlv⟩ : ∃ lv, lookL key l0 = lv := ⟨_, rfl⟩
  obtain ⟨q, th⟩ := lv
  have hlk := hk1 k1 (Nat.le_refl _)
  rw [hlv] at hlk
  have HLV := Aside0.mk hlv
  have HLK := Aside0.mk hlk
  clear hk1 hlv hlk
  have hD := DoW.start w o
  obtain ⟨Wa, hWa⟩ : ∃ Wa, Wa = (w.alloc (.cells #[.int .i64 2, .int .i64 key, .int .i64 val, .int .i64 hi] 25)).alloc (.cells #[.bool false, .int .i64 0, .int .i64 0, .slice none 0 0] 27) := ⟨_, rfl⟩
  rw [HO0.out.1, HO0.out.2.1, HO0.out.2.2.1, HO0.out.2.2.2, ← hWa] at hD
  have hBa : Below w.heap.size w Wa := by rw [hWa]; exact below_alloc (below_alloc (Below.refl _ _) _) _
  have HD := Aside0.mk hD
  have HBA := Aside0.mk hBa
  have HWA := Aside0.mk hWa
  have HS0 := Aside0.mk ho
  clear hD hBa hWa ho
  have x0 : Wa.cell? ⟨w.heap.size, 0, none⟩ = some (.int .i64 2) := by rw [← HO0.out.1]; exact HD.out.x0
  have x1 : Wa.cell? ⟨w.heap.size, 1, none⟩ = some (.int .i64 key) := by rw [← HO0.out.2.1]; exact HD.out.x1
  have x2 : Wa.cell? ⟨w.heap.size, 2, none⟩ = some (.int .i64 val) := by rw [← HO0.out.2.2.1]; exact HD.out.x2
  have x3 : Wa.cell? ⟨w.heap.size, 3, none⟩ = some (.int .i64 hi) := by rw [← HO0.out.2.2.2]; exact HD.out.x3
  go_enter Try.func39, Try.ntmps39
  go_wp2_with (first
    | (go_at_call 48; rw [← HWA.out]; refine (larchref06_look.calls k1 A0 c0 l0 key q th Wa (Kd.C_below hr0 HBA.out) hc0 HLK.out).mono ?_; rintro e w1 ⟨rfl, hd⟩; have HB1 := Aside0.mk (below_step HBA.out hd.below); have HD1 := Aside0.mk (HD.out.next (grown_below hd.below none) (by simp) (by simp)); have HDZ := Aside0.mk (HD1.out.next (grown_below (below_alloc (Below.refl w1.heap.size w1) (.cells #[.bool false, .int .i64 0, .int .i64 0, .slice none 0 0] 27)) none) (by simp) (by simp)); have HS : Aside0 (w.heap.size + 2 ≤ w1.heap.size) := ⟨by have := (Array.getElem?_eq_some_iff.1 HD1.out.rt).1; omega⟩; have HI : Aside0 (StI w (w1.alloc (.cells #[.bool th, .int .i64 0, .int .i64 q, .slice none 0 0] 27)) o w1.heap.size ⟨th, 0, q, []⟩ (.slice none 0 0) []) := ⟨⟨HD1.out.next (grown_below (below_alloc (Below.refl _ _) _) none) (by simp) (by simp), blk_new w1 _, below_alloc HB1.out _, HS.out, Kd.R_nil _ _ _ _ _⟩⟩; have y0 : (w1.alloc (.cells #[.bool false, .int .i64 0, .int .i64 0, .slice none 0 0] 27)).cell? ⟨w.heap.size, 0, none⟩ = some (.int .i64 2) := (by rw [← HO0.out.1]; exact HDZ.out.x0); have y1 : (w1.alloc (.cells #[.bool false, .int .i64 0, .int .i64 0, .slice none 0 0] 27)).cell? ⟨w.heap.size, 1, none⟩ = some (.int .i64 key) := (by rw [← HO0.out.2.1]; exact HDZ.out.x1); have y2 : (w1.alloc (.cells #[.bool false, .int .i64 0, .int .i64 0, .slice none 0 0] 27)).cell? ⟨w.heap.size, 2, none⟩ = some (.int .i64 val) := (by rw [← HO0.out.2.2.1]; exact HDZ.out.x2); have y3 : (w1.alloc (.cells #[.bool false, .int .i64 0, .int .i64 0, .slice none 0 0] 27)).cell? ⟨w.heap.size, 3, none⟩ = some (.int .i64 hi) := (by rw [← HO0.out.2.2.2]; exact HDZ.out.x3); clear hd x0 x1 x2 x3))
  go_loopw [9] (fun v9 W => ∃ (j : Nat) (r : S27), v9 = .int .i64 (j : Int) ∧ j ≤ l0.length ∧ Aside0 (stepGo o r (l0.drop j) = stepGo o ⟨th, 0, q, []⟩ l0) ∧ Aside0 (StI w W o w1.heap.size r (.slice none 0 0) []) ∧ Aside0 (r.f3 = [])) (fun v9 _ => l0.length - (intOf v9).toNat)
  case atStart => exact ⟨0, ⟨th, 0, q, []⟩, rfl, Nat.zero_le _, ⟨rfl⟩, HI, ⟨rfl⟩⟩
  case round =>
    clear HI y0 y1 y2 y3
    obtain ⟨j, r, rfl, hj, HG, HI, HP⟩ := hrel
    by_cases hlt : j < l0.length
    · obtain ⟨ad, ea, y0, y1⟩ := at_T51 (Kd.C_below hr0 HI.out.HB) (j : Int) (by omega) (by omega)
      subst ea
      rw [Int.toNat_natCast] at y0 y1
      have d1 : (0 : Int) ≤ (j : Int) := by omega
      have d2 : (j : Int) < (l0.length : Int) := by omega
      have x0 : wr.cell? ⟨w.heap.size, 0, none⟩ = some (.int .i64 2) := by rw [← HO0.out.1]; exact HI.out.D.x0
      have x1 : wr.cell? ⟨w.heap.size, 1, none⟩ = some (.int .i64 key) := by rw [← HO0.out.2.1]; exact HI.out.D.x1
      have x2 : wr.cell? ⟨w.heap.size, 2, none⟩ = some (.int .i64 val) := by rw [← HO0.out.2.2.1]; exact HI.out.D.x2
      have x3 : wr.cell? ⟨w.heap.size, 3, none⟩ = some (.int .i64 hi) := by rw [← HO0.out.2.2.2]; exact HI.out.D.x3
      have b0 : wr.cell? ⟨w1.heap.size, 0, none⟩ = some (.bool r.f0) := (blk_cell HI.out.b8 0).trans rfl
      have b1 : wr.cell? ⟨w1.heap.size, 1, none⟩ = some (.int .i64 r.f1) := (blk_cell HI.out.b8 1).trans rfl
      have b2 : wr.cell? ⟨w1.heap.size, 2, none⟩ = some (.int .i64 r.f2) := (blk_cell HI.out.b8 2).trans rfl
      have b3 : wr.cell? ⟨w1.heap.size, 3, none⟩ = some (.slice none 0 0) := (blk_cell HI.out.b8 3).trans rfl
      have f0 := blk_frozen HI.out.b8 0
      have f1 := blk_frozen HI.out.b8 1
      have f2 := blk_frozen HI.out.b8 2
      have f3 := blk_frozen HI.out.b8 3
      have y0' : (wr.alloc (.cells #[.bool false, .int .i64 0, .int .i64 0, .slice none 0 0] 27)).cell? (ad.add (j * 2)) = some (.int .i64 (J51 l0 (j : Int)).f0) := pw_cell_below (below_alloc (Below.refl _ _) _) y0
      have y1' : (wr.alloc (.cells #[.bool false, .int .i64 0, .int .i64 0, .slice none 0 0] 27)).cell? ⟨(ad.add (j * 2)).block, (ad.add (j * 2)).off + 1, none⟩ = some (.int .i64 (J51 l0 (j : Int)).f1) := pw_cell_below (below_alloc (Below.refl _ _) _) y1
      have hz := blk_new wr (.cells #[.bool false, .int .i64 0, .int .i64 0, .slice none 0 0] 27)
      have z0 : (wr.alloc (.cells #[.bool false, .int .i64 0, .int .i64 0, .slice none 0 0] 27)).cell? ⟨wr.heap.size, 0, none⟩ = some (.bool false) := (blk_cell hz 0).trans rfl
      have z1 : (wr.alloc (.cells #[.bool false, .int .i64 0, .int .i64 0, .slice none 0 0] 27)).cell? ⟨wr.heap.size, 1, none⟩ = some (.int .i64 0) := (blk_cell hz 1).trans rfl
      have z2 : (wr.alloc (.cells #[.bool false, .int .i64 0, .int .i64 0, .slice none 0 0] 27)).cell? ⟨wr.heap.size, 2, none⟩ = some (.int .i64 0) := (blk_cell hz 2).trans rfl
      have z3 : (wr.alloc (.cells #[.bool false, .int .i64 0, .int .i64 0, .slice none 0 0] 27)).cell? ⟨wr.heap.size, 3, none⟩ = some (.slice none 0 0) := (blk_cell hz 3).trans rfl
      have e0 := blk_frozen hz 0
      have e1 := blk_frozen hz 1
      have e2 := blk_frozen hz 2
      have e3 := blk_frozen hz 3
      have HZ := Aside0.mk hz
      clear hz
      go_wp2
      go_region
      obtain ⟨x, hx⟩ : ∃ x, x = J51 l0 (j : Int) := ⟨_, rfl⟩
      rw [← hx] at y0 y1 y0' y1' ⊢
      change Exit.then _ _ _ _ ((wr.alloc (.cells #[.bool true, .int .i64 x.f0, .int .i64 x.f1, .slice none 0 0] 27)).drew)
      clear y0' y1' z0 z1 z2 z3 e0 e1 e2 e3 f0 f1 f2 f3 b0 b1 b2 b3 x0 x1 x2 x3
      have h8n : w1.heap.size < wr.heap.size := (Array.getElem?_eq_some_iff.1 HI.out.b8).1
      have HY : Aside0 (((wr.alloc (.cells #[.bool true, .int .i64 x.f0, .int .i64 x.f1, .slice none 0 0] 27)).drew).heap[wr.heap.size]? = some (.cells (rC true x.f0 x.f1 (.slice none 0 0)) 27 (0, 0))) := ⟨blk_new wr _⟩
      have hbb : Below wr.heap.size wr ((wr.alloc (.cells #[.bool true, .int .i64 x.f0, .int .i64 x.f1, .slice none 0 0] 27)).drew) := below_drew1 (below_alloc (Below.refl _ _) _)
      have HI2 : Aside0 (StI w ((wr.alloc (.cells #[.bool true, .int .i64 x.f0, .int .i64 x.f1, .slice none 0 0] 27)).drew) o w1.heap.size r (.slice none 0 0) []) := ⟨⟨HI.out.D.next (grown_below hbb none) (by simp) (by simp), blk_below HI.out.b8 hbb, below_step HI.out.HB hbb, HI.out.n, Kd.R_nil _ _ _ _ _⟩⟩
      replace y0 := pw_cell_below hbb y0
      replace y1 := pw_cell_below hbb y1
      obtain ⟨n10, hn10⟩ : ∃ n10, n10 = wr.heap.size := ⟨_, rfl⟩
      rw [← hn10] at HY h8n ⊢
      clear hbb HI hn10
      generalize (wr.alloc (.cells #[.bool true, .int .i64 x.f0, .int .i64 x.f1, .slice none 0 0] 27)).drew = Wd at HY HI2 y0 y1 ⊢
      have HXX := Aside0.mk hx
      clear hx
      have x0 : Wd.cell? ⟨w.heap.size, 0, none⟩ = some (.int .i64 2) := by rw [← HO0.out.1]; exact HI2.out.D.x0
      have x1 : Wd.cell? ⟨w.heap.size, 1, none⟩ = some (.int .i64 key) := by rw [← HO0.out.2.1]; exact HI2.out.D.x1
      have x2 : Wd.cell? ⟨w.heap.size, 2, none⟩ = some (.int .i64 val) := by rw [← HO0.out.2.2.1]; exact HI2.out.D.x2
      have x3 : Wd.cell? ⟨w.heap.size, 3, none⟩ = some (.int .i64 hi) := by rw [← HO0.out.2.2.2]; exact HI2.out.D.x3
      have b0 : Wd.cell? ⟨w1.heap.size, 0, none⟩ = some (.bool r.f0) := (blk_cell HI2.out.b8 0).trans rfl
      have b1 : Wd.cell? ⟨w1.heap.size, 1, none⟩ = some (.int .i64 r.f1) := (blk_cell HI2.out.b8 1).trans rfl
      have b2 : Wd.cell? ⟨w1.heap.size, 2, none⟩ = some (.int .i64 r.f2) := (blk_cell HI2.out.b8 2).trans rfl
      have b3 : Wd.cell? ⟨w1.heap.size, 3, none⟩ = some (.slice none 0 0) := (blk_cell HI2.out.b8 3).trans rfl
      have z0 : Wd.cell? ⟨n10, 0, none⟩ = some (.bool true) := (blk_cell HY.out 0).trans rfl
      have z1 : Wd.cell? ⟨n10, 1, none⟩ = some (.int .i64 x.f0) := (blk_cell HY.out 1).trans rfl
      have z2 : Wd.cell? ⟨n10, 2, none⟩ = some (.int .i64 x.f1) := (blk_cell HY.out 2).trans rfl
      have z3 : Wd.cell? ⟨n10, 3, none⟩ = some (.slice none 0 0) := (blk_cell HY.out 3).trans rfl
      have f0 := blk_frozen HI2.out.b8 0
      have f1 := blk_frozen HI2.out.b8 1
      have f2 := blk_frozen HI2.out.b8 2
      have f3 := blk_frozen HI2.out.b8 3
      have hg := HG.out
      rw [drop51c l0 j hlt, ← HXX.out, stepGo] at hg
      rw [show hitB o r x = false from by unfold hitB; simp [HO0.out.1, HO0.out.2.1], if_neg (by decide)] at hg
      have HG2 := Aside0.mk hg
      clear hg
      go_wp2
      go_region
      go_wp2
      go_roundw
      case rel => exact ⟨j + 1, r, by go_num, by omega, HG2, ⟨⟨HI2.out.D.next (grown_below (below_drew1 (Below.refl _ _)) none) (by simp) (by simp), HI2.out.b8, below_drew1 HI2.out.HB, HI2.out.n, Kd.R_nil _ _ _ _ _⟩⟩, HP⟩
      case measure => simp [intOf]; omega
    · obtain rfl : j = l0.length := by omega
      have hg := HG.out
      rw [List.drop_length, stepGo] at hg
      have h0 : step0 l0 o = ⟨th, 0, q, []⟩ := by unfold step0; simp [HO0.out.1, HO0.out.2.1, HO0.out.2.2.2, HLV.out, zR]
      have HRF : Aside0 (r = (stepL l0 o).2) := ⟨by show r = stepGo o (step0 l0 o) l0; rw [h0]; exact hg⟩
      clear hg h0 HG hj hlt
      have x0 : wr.cell? ⟨w.heap.size, 0, none⟩ = some (.int .i64 2) := (by rw [← HO0.out.1]; exact HI.out.D.x0); have x1 : wr.cell? ⟨w.heap.size, 1, none⟩ = some (.int .i64 key) := (by rw [← HO0.out.2.1]; exact HI.out.D.x1); have x2 : wr.cell? ⟨w.heap.size, 2, none⟩ = some (.int .i64 val) := (by rw [← HO0.out.2.2.1]; exact HI.out.D.x2); have x3 : wr.cell? ⟨w.heap.size, 3, none⟩ = some (.int .i64 hi) := (by rw [← HO0.out.2.2.2]; exact HI.out.D.x3); have b0 : wr.cell? ⟨w1.heap.size, 0, none⟩ = some (.bool r.f0) := (blk_cell HI.out.b8 0).trans rfl; have b1 : wr.cell? ⟨w1.heap.size, 1, none⟩ = some (.int .i64 r.f1) := (blk_cell HI.out.b8 1).trans rfl; have b2 : wr.cell? ⟨w1.heap.size, 2, none⟩ = some (.int .i64 r.f2) := (blk_cell HI.out.b8 2).trans rfl; have b3 : wr.cell? ⟨w1.heap.size, 3, none⟩ = some (.slice none 0 0) := (blk_cell HI.out.b8 3).trans rfl; have d0 : wr.cell? ⟨w.heap.size + 1, 0, none⟩ = some (.bool false) := (blk_cell HI.out.D.rt 0).trans rfl; have d1 : wr.cell? ⟨w.heap.size + 1, 1, none⟩ = some (.int .i64 0) := (blk_cell HI.out.D.rt 1).trans rfl; have d2 : wr.cell? ⟨w.heap.size + 1, 2, none⟩ = some (.int .i64 0) := (blk_cell HI.out.D.rt 2).trans rfl; have d3 : wr.cell? ⟨w.heap.size + 1, 3, none⟩ = some (.slice none 0 0) := (blk_cell HI.out.D.rt 3).trans rfl; have f0 := blk_frozen HI.out.D.rt 0; have f1 := blk_frozen HI.out.D.rt 1; have f2 := blk_frozen HI.out.D.rt 2; have f3 := blk_frozen HI.out.D.rt 3
      obtain ⟨k2, hk2⟩ := with_ev l0 hl key val false
      have HW := Aside0.mk (hk2 k2 (Nat.le_refl _))
      clear hk2
      go_wp2_with (first
        | ((with_reducible refine gate_dst (N := 110) rfl ?_); refine Kd.R_lit k51 _ 51 ?hg (N := 110) ?hd (xs := ([] : List S51)) (inner := []) (ok := fun _ => True) (okp := fun _ => True) ?hr ?hp (fun _ hk => hk) trivial (Below.refl _ _) (Nat.le_refl _) (by simp) ?_; (case hd => rfl); (case hg => rfl); (case hr => first | (go_simp; done) | (go_simp; rfl)); (case hp => exact Reps.none _ _); intro vL wL hoL hbL _ _; have HIL := Aside0.mk (HI.out.below hbL); have HOB := Aside0.mk (Kd.R_base hoL); have HOL := Aside0.mk (Kd.R_lower hoL HI.out.HB.size); clear x0 x1 x2 x3 b0 b1 b2 b3 d0 d1 d2 d3 f0 f1 f2 f3; have x0 : wL.cell? ⟨w.heap.size, 0, none⟩ = some (.int .i64 2) := (by rw [← HO0.out.1]; exact HIL.out.D.x0); have x1 : wL.cell? ⟨w.heap.size, 1, none⟩ = some (.int .i64 key) := (by rw [← HO0.out.2.1]; exact HIL.out.D.x1); have x2 : wL.cell? ⟨w.heap.size, 2, none⟩ = some (.int .i64 val) := (by rw [← HO0.out.2.2.1]; exact HIL.out.D.x2); have x3 : wL.cell? ⟨w.heap.size, 3, none⟩ = some (.int .i64 hi) := (by rw [← HO0.out.2.2.2]; exact HIL.out.D.x3); have b0 : wL.cell? ⟨w1.heap.size, 0, none⟩ = some (.bool r.f0) := (blk_cell HIL.out.b8 0).trans rfl; have b1 : wL.cell? ⟨w1.heap.size, 1, none⟩ = some (.int .i64 r.f1) := (blk_cell HIL.out.b8 1).trans rfl; have b2 : wL.cell? ⟨w1.heap.size, 2, none⟩ = some (.int .i64 r.f2) := (blk_cell HIL.out.b8 2).trans rfl; have b3 : wL.cell? ⟨w1.heap.size, 3, none⟩ = some (.slice none 0 0) := (blk_cell HIL.out.b8 3).trans rfl; have d0 : wL.cell? ⟨w.heap.size + 1, 0, none⟩ = some (.bool false) := (blk_cell HIL.out.D.rt 0).trans rfl; have d1 : wL.cell? ⟨w.heap.size + 1, 1, none⟩ = some (.int .i64 0) := (blk_cell HIL.out.D.rt 1).trans rfl; have d2 : wL.cell? ⟨w.heap.size + 1, 2, none⟩ = some (.int .i64 0) := (blk_cell HIL.out.D.rt 2).trans rfl; have d3 : wL.cell? ⟨w.heap.size + 1, 3, none⟩ = some (.slice none 0 0) := (blk_cell HIL.out.D.rt 3).trans rfl; have f0 := blk_frozen HIL.out.D.rt 0; have f1 := blk_frozen HIL.out.D.rt 1; have f2 := blk_frozen HIL.out.D.rt 2; have f3 := blk_frozen HIL.out.D.rt 3; clear hoL hbL)
        | (at_builtin; refine Kd.R_append_rows k51 (w0 := w) w.heap.size rfl (.tmp 110) (.tmp 111) 22 51 (.agg #[(.int .i64 0), (.int .i64 0)]) 16 rfl Try.underlying22 info51 rfl (by decide) (by omega) vL ([] : List S51) l0 _ _ _ (fun _ => True) (fun _ => False) rfl rfl ?aO ?aR (fun _ _ h => h) (fun _ h => h.elim) ?aF ?aB ?aS ?aL ?_; (case aR => exact Kd.C_below hr0 HIL.out.HB); (case aB => exact HIL.out.HB); (case aF => exact (fun _ _ => trivial)); (case aO => exact HOL.out); (case aS => exact HIL.out.HB.size); (case aL => show (0 + l0.length) * 16 ≤ 140737488355328; omega); intro v12 wF hoF hbF hgF hatF; have HM := Aside0.mk hoF; have HIF := Aside0.mk (HIL.out.grown hgF (fun k hk => by have h1 := HOB.out k hk; have := HI.out.lt; omega) (Kd.R_nil _ _ _ _ _)); clear x0 x1 x2 x3 b0 b1 b2 b3 d0 d1 d2 d3 f0 f1 f2 f3; have x0 : wF.cell? ⟨w.heap.size, 0, none⟩ = some (.int .i64 2) := (by rw [← HO0.out.1]; exact HIF.out.D.x0); have x1 : wF.cell? ⟨w.heap.size, 1, none⟩ = some (.int .i64 key) := (by rw [← HO0.out.2.1]; exact HIF.out.D.x1); have x2 : wF.cell? ⟨w.heap.size, 2, none⟩ = some (.int .i64 val) := (by rw [← HO0.out.2.2.1]; exact HIF.out.D.x2); have x3 : wF.cell? ⟨w.heap.size, 3, none⟩ = some (.int .i64 hi) := (by rw [← HO0.out.2.2.2]; exact HIF.out.D.x3); have b0 : wF.cell? ⟨w1.heap.size, 0, none⟩ = some (.bool r.f0) := (blk_cell HIF.out.b8 0).trans rfl; have b1 : wF.cell? ⟨w1.heap.size, 1, none⟩ = some (.int .i64 r.f1) := (blk_cell HIF.out.b8 1).trans rfl; have b2 : wF.cell? ⟨w1.heap.size, 2, none⟩ = some (.int .i64 r.f2) := (blk_cell HIF.out.b8 2).trans rfl; have b3 : wF.cell? ⟨w1.heap.size, 3, none⟩ = some (.slice none 0 0) := (blk_cell HIF.out.b8 3).trans rfl; have d0 : wF.cell? ⟨w.heap.size + 1, 0, none⟩ = some (.bool false) := (blk_cell HIF.out.D.rt 0).trans rfl; have d1 : wF.cell? ⟨w.heap.size + 1, 1, none⟩ = some (.int .i64 0) := (blk_cell HIF.out.D.rt 1).trans rfl; have d2 : wF.cell? ⟨w.heap.size + 1, 2, none⟩ = some (.int .i64 0) := (blk_cell HIF.out.D.rt 2).trans rfl; have d3 : wF.cell? ⟨w.heap.size + 1, 3, none⟩ = some (.slice none 0 0) := (blk_cell HIF.out.D.rt 3).trans rfl; have f0 := blk_frozen HIF.out.D.rt 0; have f1 := blk_frozen HIF.out.D.rt 1; have f2 := blk_frozen HIF.out.D.rt 2; have f3 := blk_frozen HIF.out.D.rt 3; clear hoF hbF hgF hatF)
        | (go_at_call 45; refine (larchref06_with.calls k2 A0 c0 l0 key val false _ wF (Kd.C_below hr0 HIF.out.HB) hc0 HW.out).mono ?_; rintro e_ wF ⟨v12, rfl, hoF, hbF⟩; replace HM := Aside0.mk (Kd.R_lower hoF HIF.out.HB.size); replace HIF := Aside0.mk (HIF.out.below hbF); clear x0 x1 x2 x3 b0 b1 b2 b3 d0 d1 d2 d3 f0 f1 f2 f3; have x0 : wF.cell? ⟨w.heap.size, 0, none⟩ = some (.int .i64 2) := (by rw [← HO0.out.1]; exact HIF.out.D.x0); have x1 : wF.cell? ⟨w.heap.size, 1, none⟩ = some (.int .i64 key) := (by rw [← HO0.out.2.1]; exact HIF.out.D.x1); have x2 : wF.cell? ⟨w.heap.size, 2, none⟩ = some (.int .i64 val) := (by rw [← HO0.out.2.2.1]; exact HIF.out.D.x2); have x3 : wF.cell? ⟨w.heap.size, 3, none⟩ = some (.int .i64 hi) := (by rw [← HO0.out.2.2.2]; exact HIF.out.D.x3); have b0 : wF.cell? ⟨w1.heap.size, 0, none⟩ = some (.bool r.f0) := (blk_cell HIF.out.b8 0).trans rfl; have b1 : wF.cell? ⟨w1.heap.size, 1, none⟩ = some (.int .i64 r.f1) := (blk_cell HIF.out.b8 1).trans rfl; have b2 : wF.cell? ⟨w1.heap.size, 2, none⟩ = some (.int .i64 r.f2) := (blk_cell HIF.out.b8 2).trans rfl; have b3 : wF.cell? ⟨w1.heap.size, 3, none⟩ = some (.slice none 0 0) := (blk_cell HIF.out.b8 3).trans rfl; have d0 : wF.cell? ⟨w.heap.size + 1, 0, none⟩ = some (.bool false) := (blk_cell HIF.out.D.rt 0).trans rfl; have d1 : wF.cell? ⟨w.heap.size + 1, 1, none⟩ = some (.int .i64 0) := (blk_cell HIF.out.D.rt 1).trans rfl; have d2 : wF.cell? ⟨w.heap.size + 1, 2, none⟩ = some (.int .i64 0) := (blk_cell HIF.out.D.rt 2).trans rfl; have d3 : wF.cell? ⟨w.heap.size + 1, 3, none⟩ = some (.slice none 0 0) := (blk_cell HIF.out.D.rt 3).trans rfl; have f0 := blk_frozen HIF.out.D.rt 0; have f1 := blk_frozen HIF.out.D.rt 1; have f2 := blk_frozen HIF.out.D.rt 2; have f3 := blk_frozen HIF.out.D.rt 3; clear hoF hbF))
      go_region
      change Exit.then _ _ _ _ ((retW wF (w.heap.size + 1) r.f0 r.f1 r.f2 (.slice none 0 0)).drew)
      have hrt := ret_rt HIF.out.D.rt r.f0 r.f1 r.f2 (.slice none 0 0)
      have HE1 := Aside0.mk (Kd.R_drew (ret_R HIF.out.D.rt r.f0 r.f1 r.f2 (.slice none 0 0) HM.out))
      have HE2 := Aside0.mk (below_ret (b := r.f0) (x := r.f1) (y := r.f2) (v := .slice none 0 0) (g := w.heap.size + 1) HIF.out.HB (by omega))
      clear x0 x1 x2 x3 b0 b1 b2 b3 d0 d1 d2 d3 f0 f1 f2 f3
      go_wp2
      refine bodyPost_ret (results_list (rs := [.tmp 4, .cell 5 27]) rfl (by simp) (.tmp (.cell (w.heap.size + 1) 27 #[.bool r.f0, .int .i64 r.f1, .int .i64 r.f2, .slice none 0 0] (0, 0) _ rfl hrt Try.underlying27 rfl (by kernel_rfl) .nil))) rfl ?_
      refine ⟨v12, .slice none 0 0, by rw [← HRF.out]; rfl, ?_, ?_, HE2.out⟩
      · rw [show (stepL l0 o).1 = withL key val false l0 from by unfold stepL; simp [HO0.out.1, HO0.out.2.1, HO0.out.2.2.1, HLV.out]]
        exact Kd.R_mono HE1.out (fun k _ he => by simp [Value.ownBlock] at he)
      · rw [← HRF.out, HP.out]
        exact Kd.R_nil _ _ _ _ _
set_option maxHeartbeats 4000000 in
set_option maxRecDepth 100000 in
theorem step_3 (A0 : Option Addr) (c0 : Nat) (l0 : List S51) (key val hi : Int) (w : World) (hr0 : Kd.C k51 w A0 l0.length l0) (hc0 : l0.length ≤ c0) (hl : l0.length < 1000000000) :
    Calls Try.prog 39 #[.slice A0 l0.length c0, .agg #[.int .i64 3, .int .i64 key, .int .i64 val, .int .i64 hi]] w fun e w' => StP w (stepL l0 ⟨3, key, val, hi⟩).1 (stepL l0 ⟨3, key, val, hi⟩).2 e w' := by
  have hu25 := Try.underlying25
  have hu27 := Try.underlying27
  have hu51 := Try.underlying51
  obtain ⟨o, ho⟩ : ∃ o : S25, o = ⟨3, key, val, hi⟩ := ⟨_, rfl⟩
  rw [← ho]
  have HO0 : Aside0 (o.f0 = 3 ∧ o.f1 = key ∧ o.f2 = val ∧ o.f3 = hi) := ⟨by rw [ho]; exact ⟨rfl, rfl, rfl, rfl⟩⟩
  obtain ⟨k1, hk1⟩ := look_ev l0 hl key
  obtain ⟨lv, hlv⟩ : ∃ lv, lookL key l0 = lv := ⟨_, rfl⟩
  obtain ⟨q, th⟩ := lv
  have hlk := hk1 k1 (Nat.le_refl _)
  rw [hlv] at hlk
  have HLV := Aside0.mk hlv
  have HLK := Aside0.mk hlk
  clear hk1 hlv hlk
  have hD := DoW.start w o
  obtain ⟨Wa, hWa⟩ : ∃ Wa, Wa = (w.alloc (.cells #[.int .i64 3, .int .i64 key, .int .i64 val, .int .i64 hi] 25)).alloc (.cells #[.bool false, .int .i64 0, .int .i64 0, .slice none 0 0] 27) := ⟨_, rfl⟩
  rw [HO0.out.1, HO0.out.2.1, HO0.out.2.2.1, HO0.out.2.2.2, ← hWa] at hD
  have hBa : Below w.heap.size w Wa := by rw [hWa]; exact below_alloc (below_alloc (Below.refl _ _) _) _
  have HD := Aside0.mk hD
  have HBA := Aside0.mk hBa
  have HWA := Aside0.mk hWa
  have HS0 := Aside0.mk ho
  clear hD hBa hWa ho
  have x0 : Wa.cell? ⟨w.heap.size, 0, none⟩ = some (.int .i64 3) := by rw [← HO0.out.1]; exact HD.out.x0
  have x1 : Wa.cell? ⟨w.heap.size, 1, none⟩ = some (.int .i64 key) := by rw [← HO0.out.2.1]; exact HD.out.x1
  have x2 : Wa.cell? ⟨w.heap.size, 2, none⟩ = some (.int .i64 val) := by rw [← HO0.out.2.2.1]; exact HD.out.x2
  have x3 : Wa.cell? ⟨w.heap.size, 3, none⟩ = some (.int .i64 hi) := by rw [← HO0.out.2.2.2]; exact HD.out.x3
  go_enter Try.func39, Try.ntmps39
  go_wp2_with (first
    | (go_at_call 48; rw [← HWA.out]; refine (larchref06_look.calls k1 A0 c0 l0 key q th Wa (Kd.C_below hr0 HBA.out) hc0 HLK.out).mono ?_; rintro e w1 ⟨rfl, hd⟩; have HB1 := Aside0.mk (below_step HBA.out hd.below); have HD1 := Aside0.mk (HD.out.next (grown_below hd.below none) (by simp) (by simp)); have HDZ := Aside0.mk (HD1.out.next (grown_below (below_alloc (Below.refl w1.heap.size w1) (.cells #[.bool false, .int .i64 0, .int .i64 0, .slice none 0 0] 27)) none) (by simp) (by simp)); have HS : Aside0 (w.heap.size + 2 ≤ w1.heap.size) := ⟨by have := (Array.getElem?_eq_some_iff.1 HD1.out.rt).1; omega⟩; have HI : Aside0 (StI w (w1.alloc (.cells #[.bool (!th), .int .i64 0, .int .i64 q, .slice none 0 0] 27)) o w1.heap.size ⟨(!th), 0, q, []⟩ (.slice none 0 0) []) := ⟨⟨HD1.out.next (grown_below (below_alloc (Below.refl _ _) _) none) (by simp) (by simp), blk_new w1 _, below_alloc HB1.out _, HS.out, Kd.R_nil _ _ _ _ _⟩⟩; have y0 : (w1.alloc (.cells #[.bool false, .int .i64 0, .int .i64 0, .slice none 0 0] 27)).cell? ⟨w.heap.size, 0, none⟩ = some (.int .i64 3) := (by rw [← HO0.out.1]; exact HDZ.out.x0); have y1 : (w1.alloc (.cells #[.bool false, .int .i64 0, .int .i64 0, .slice none 0 0] 27)).cell? ⟨w.heap.size, 1, none⟩ = some (.int .i64 key) := (by rw [← HO0.out.2.1]; exact HDZ.out.x1); have y2 : (w1.alloc (.cells #[.bool false, .int .i64 0, .int .i64 0, .slice none 0 0] 27)).cell? ⟨w.heap.size, 2, none⟩ = some (.int .i64 val) := (by rw [← HO0.out.2.2.1]; exact HDZ.out.x2); have y3 : (w1.alloc (.cells #[.bool false, .int .i64 0, .int .i64 0, .slice none 0 0] 27)).cell? ⟨w.heap.size, 3, none⟩ = some (.int .i64 hi) := (by rw [← HO0.out.2.2.2]; exact HDZ.out.x3); clear hd x0 x1 x2 x3))
  go_loopw [9] (fun v9 W => ∃ (j : Nat) (r : S27), v9 = .int .i64 (j : Int) ∧ j ≤ l0.length ∧ Aside0 (stepGo o r (l0.drop j) = stepGo o ⟨(!th), 0, q, []⟩ l0) ∧ Aside0 (StI w W o w1.heap.size r (.slice none 0 0) []) ∧ Aside0 (r.f3 = [])) (fun v9 _ => l0.length - (intOf v9).toNat)
  case atStart => exact ⟨0, ⟨(!th), 0, q, []⟩, rfl, Nat.zero_le _, ⟨rfl⟩, HI, ⟨rfl⟩⟩
  case round =>
    clear HI y0 y1 y2 y3
    obtain ⟨j, r, rfl, hj, HG, HI, HP⟩ := hrel
    by_cases hlt : j < l0.length
    · obtain ⟨ad, ea, y0, y1⟩ := at_T51 (Kd.C_below hr0 HI.out.HB) (j : Int) (by omega) (by omega)
      subst ea
      rw [Int.toNat_natCast] at y0 y1
      have d1 : (0 : Int) ≤ (j : Int) := by omega
      have d2 : (j : Int) < (l0.length : Int) := by omega
      have x0 : wr.cell? ⟨w.heap.size, 0, none⟩ = some (.int .i64 3) := by rw [← HO0.out.1]; exact HI.out.D.x0
      have x1 : wr.cell? ⟨w.heap.size, 1, none⟩ = some (.int .i64 key) := by rw [← HO0.out.2.1]; exact HI.out.D.x1
      have x2 : wr.cell? ⟨w.heap.size, 2, none⟩ = some (.int .i64 val) := by rw [← HO0.out.2.2.1]; exact HI.out.D.x2
      have x3 : wr.cell? ⟨w.heap.size, 3, none⟩ = some (.int .i64 hi) := by rw [← HO0.out.2.2.2]; exact HI.out.D.x3
      have b0 : wr.cell? ⟨w1.heap.size, 0, none⟩ = some (.bool r.f0) := (blk_cell HI.out.b8 0).trans rfl
      have b1 : wr.cell? ⟨w1.heap.size, 1, none⟩ = some (.int .i64 r.f1) := (blk_cell HI.out.b8 1).trans rfl
      have b2 : wr.cell? ⟨w1.heap.size, 2, none⟩ = some (.int .i64 r.f2) := (blk_cell HI.out.b8 2).trans rfl
      have b3 : wr.cell? ⟨w1.heap.size, 3, none⟩ = some (.slice none 0 0) := (blk_cell HI.out.b8 3).trans rfl
      have f0 := blk_frozen HI.out.b8 0
      have f1 := blk_frozen HI.out.b8 1
      have f2 := blk_frozen HI.out.b8 2
      have f3 := blk_frozen HI.out.b8 3
      have y0' : (wr.alloc (.cells #[.bool false, .int .i64 0, .int .i64 0, .slice none 0 0] 27)).cell? (ad.add (j * 2)) = some (.int .i64 (J51 l0 (j : Int)).f0) := pw_cell_below (below_alloc (Below.refl _ _) _) y0
      have y1' : (wr.alloc (.cells #[.bool false, .int .i64 0, .int .i64 0, .slice none 0 0] 27)).cell? ⟨(ad.add (j * 2)).block, (ad.add (j * 2)).off + 1, none⟩ = some (.int .i64 (J51 l0 (j : Int)).f1) := pw_cell_below (below_alloc (Below.refl _ _) _) y1
      have hz := blk_new wr (.cells #[.bool false, .int .i64 0, .int .i64 0, .slice none 0 0] 27)
      have z0 : (wr.alloc (.cells #[.bool false, .int .i64 0, .int .i64 0, .slice none 0 0] 27)).cell? ⟨wr.heap.size, 0, none⟩ = some (.bool false) := (blk_cell hz 0).trans rfl
      have z1 : (wr.alloc (.cells #[.bool false, .int .i64 0, .int .i64 0, .slice none 0 0] 27)).cell? ⟨wr.heap.size, 1, none⟩ = some (.int .i64 0) := (blk_cell hz 1).trans rfl
      have z2 : (wr.alloc (.cells #[.bool false, .int .i64 0, .int .i64 0, .slice none 0 0] 27)).cell? ⟨wr.heap.size, 2, none⟩ = some (.int .i64 0) := (blk_cell hz 2).trans rfl
      have z3 : (wr.alloc (.cells #[.bool false, .int .i64 0, .int .i64 0, .slice none 0 0] 27)).cell? ⟨wr.heap.size, 3, none⟩ = some (.slice none 0 0) := (blk_cell hz 3).trans rfl
      have e0 := blk_frozen hz 0
      have e1 := blk_frozen hz 1
      have e2 := blk_frozen hz 2
      have e3 := blk_frozen hz 3
      have HZ := Aside0.mk hz
      clear hz
      go_wp2
      go_region
      obtain ⟨x, hx⟩ : ∃ x, x = J51 l0 (j : Int) := ⟨_, rfl⟩
      rw [← hx] at y0 y1 y0' y1' ⊢
      change Exit.then _ _ _ _ ((wr.alloc (.cells #[.bool true, .int .i64 x.f0, .int .i64 x.f1, .slice none 0 0] 27)).drew)
      clear y0' y1' z0 z1 z2 z3 e0 e1 e2 e3 f0 f1 f2 f3 b0 b1 b2 b3 x0 x1 x2 x3
      have h8n : w1.heap.size < wr.heap.size := (Array.getElem?_eq_some_iff.1 HI.out.b8).1
      have HY : Aside0 (((wr.alloc (.cells #[.bool true, .int .i64 x.f0, .int .i64 x.f1, .slice none 0 0] 27)).drew).heap[wr.heap.size]? = some (.cells (rC true x.f0 x.f1 (.slice none 0 0)) 27 (0, 0))) := ⟨blk_new wr _⟩
      have hbb : Below wr.heap.size wr ((wr.alloc (.cells #[.bool true, .int .i64 x.f0, .int .i64 x.f1, .slice none 0 0] 27)).drew) := below_drew1 (below_alloc (Below.refl _ _) _)
      have HI2 : Aside0 (StI w ((wr.alloc (.cells #[.bool true, .int .i64 x.f0, .int .i64 x.f1, .slice none 0 0] 27)).drew) o w1.heap.size r (.slice none 0 0) []) := ⟨⟨HI.out.D.next (grown_below hbb none) (by simp) (by simp), blk_below HI.out.b8 hbb, below_step HI.out.HB hbb, HI.out.n, Kd.R_nil _ _ _ _ _⟩⟩
      replace y0 := pw_cell_below hbb y0
      replace y1 := pw_cell_below hbb y1
      obtain ⟨n10, hn10⟩ : ∃ n10, n10 = wr.heap.size := ⟨_, rfl⟩
      rw [← hn10] at HY h8n ⊢
      clear hbb HI hn10
      generalize (wr.alloc (.cells #[.bool true, .int .i64 x.f0, .int .i64 x.f1, .slice none 0 0] 27)).drew = Wd at HY HI2 y0 y1 ⊢
      have HXX := Aside0.mk hx
      clear hx
      have x0 : Wd.cell? ⟨w.heap.size, 0, none⟩ = some (.int .i64 3) := by rw [← HO0.out.1]; exact HI2.out.D.x0
      have x1 : Wd.cell? ⟨w.heap.size, 1, none⟩ = some (.int .i64 key) := by rw [← HO0.out.2.1]; exact HI2.out.D.x1
      have x2 : Wd.cell? ⟨w.heap.size, 2, none⟩ = some (.int .i64 val) := by rw [← HO0.out.2.2.1]; exact HI2.out.D.x2
      have x3 : Wd.cell? ⟨w.heap.size, 3, none⟩ = some (.int .i64 hi) := by rw [← HO0.out.2.2.2]; exact HI2.out.D.x3
      have b0 : Wd.cell? ⟨w1.heap.size, 0, none⟩ = some (.bool r.f0) := (blk_cell HI2.out.b8 0).trans rfl
      have b1 : Wd.cell? ⟨w1.heap.size, 1, none⟩ = some (.int .i64 r.f1) := (blk_cell HI2.out.b8 1).trans rfl
      have b2 : Wd.cell? ⟨w1.heap.size, 2, none⟩ = some (.int .i64 r.f2) := (blk_cell HI2.out.b8 2).trans rfl
      have b3 : Wd.cell? ⟨w1.heap.size, 3, none⟩ = some (.slice none 0 0) := (blk_cell HI2.out.b8 3).trans rfl
      have z0 : Wd.cell? ⟨n10, 0, none⟩ = some (.bool true) := (blk_cell HY.out 0).trans rfl
      have z1 : Wd.cell? ⟨n10, 1, none⟩ = some (.int .i64 x.f0) := (blk_cell HY.out 1).trans rfl
      have z2 : Wd.cell? ⟨n10, 2, none⟩ = some (.int .i64 x.f1) := (blk_cell HY.out 2).trans rfl
      have z3 : Wd.cell? ⟨n10, 3, none⟩ = some (.slice none 0 0) := (blk_cell HY.out 3).trans rfl
      have f0 := blk_frozen HI2.out.b8 0
      have f1 := blk_frozen HI2.out.b8 1
      have f2 := blk_frozen HI2.out.b8 2
      have f3 := blk_frozen HI2.out.b8 3
      have hg := HG.out
      rw [drop51c l0 j hlt, ← HXX.out, stepGo] at hg
      rw [show hitB o r x = false from by unfold hitB; simp [HO0.out.1, HO0.out.2.1], if_neg (by decide)] at hg
      have HG2 := Aside0.mk hg
      clear hg
      go_wp2
      go_region
      go_wp2
      go_roundw
      case rel => exact ⟨j + 1, r, by go_num, by omega, HG2, ⟨⟨HI2.out.D.next (grown_below (below_drew1 (Below.refl _ _)) none) (by simp) (by simp), HI2.out.b8, below_drew1 HI2.out.HB, HI2.out.n, Kd.R_nil _ _ _ _ _⟩⟩, HP⟩
      case measure => simp [intOf]; omega
    · obtain rfl : j = l0.length := by omega
      have hg := HG.out
      rw [List.drop_length, stepGo] at hg
      have h0 : step0 l0 o = ⟨(!th), 0, q, []⟩ := by unfold step0; simp [HO0.out.1, HO0.out.2.1, HO0.out.2.2.2, HLV.out, zR]
      have HRF : Aside0 (r = (stepL l0 o).2) := ⟨by show r = stepGo o (step0 l0 o) l0; rw [h0]; exact hg⟩
      clear hg h0 HG hj hlt
      have x0 : wr.cell? ⟨w.heap.size, 0, none⟩ = some (.int .i64 3) := (by rw [← HO0.out.1]; exact HI.out.D.x0); have x1 : wr.cell? ⟨w.heap.size, 1, none⟩ = some (.int .i64 key) := (by rw [← HO0.out.2.1]; exact HI.out.D.x1); have x2 : wr.cell? ⟨w.heap.size, 2, none⟩ = some (.int .i64 val) := (by rw [← HO0.out.2.2.1]; exact HI.out.D.x2); have x3 : wr.cell? ⟨w.heap.size, 3, none⟩ = some (.int .i64 hi) := (by rw [← HO0.out.2.2.2]; exact HI.out.D.x3); have b0 : wr.cell? ⟨w1.heap.size, 0, none⟩ = some (.bool r.f0) := (blk_cell HI.out.b8 0).trans rfl; have b1 : wr.cell? ⟨w1.heap.size, 1, none⟩ = some (.int .i64 r.f1) := (blk_cell HI.out.b8 1).trans rfl; have b2 : wr.cell? ⟨w1.heap.size, 2, none⟩ = some (.int .i64 r.f2) := (blk_cell HI.out.b8 2).trans rfl; have b3 : wr.cell? ⟨w1.heap.size, 3, none⟩ = some (.slice none 0 0) := (blk_cell HI.out.b8 3).trans rfl; have d0 : wr.cell? ⟨w.heap.size + 1, 0, none⟩ = some (.bool false) := (blk_cell HI.out.D.rt 0).trans rfl; have d1 : wr.cell? ⟨w.heap.size + 1, 1, none⟩ = some (.int .i64 0) := (blk_cell HI.out.D.rt 1).trans rfl; have d2 : wr.cell? ⟨w.heap.size + 1, 2, none⟩ = some (.int .i64 0) := (blk_cell HI.out.D.rt 2).trans rfl; have d3 : wr.cell? ⟨w.heap.size + 1, 3, none⟩ = some (.slice none 0 0) := (blk_cell HI.out.D.rt 3).trans rfl; have f0 := blk_frozen HI.out.D.rt 0; have f1 := blk_frozen HI.out.D.rt 1; have f2 := blk_frozen HI.out.D.rt 2; have f3 := blk_frozen HI.out.D.rt 3
      cases th with
      | false =>
        obtain ⟨k2, hk2⟩ := with_ev l0 hl key val false
        have HW := Aside0.mk (hk2 k2 (Nat.le_refl _))
        clear hk2
        go_wp2_with (first
          | ((with_reducible refine gate_dst (N := 110) rfl ?_); refine Kd.R_lit k51 _ 51 ?hg (N := 110) ?hd (xs := ([] : List S51)) (inner := []) (ok := fun _ => True) (okp := fun _ => True) ?hr ?hp (fun _ hk => hk) trivial (Below.refl _ _) (Nat.le_refl _) (by simp) ?_; (case hd => rfl); (case hg => rfl); (case hr => first | (go_simp; done) | (go_simp; rfl)); (case hp => exact Reps.none _ _); intro vL wL hoL hbL _ _; have HIL := Aside0.mk (HI.out.below hbL); have HOB := Aside0.mk (Kd.R_base hoL); have HOL := Aside0.mk (Kd.R_lower hoL HI.out.HB.size); clear x0 x1 x2 x3 b0 b1 b2 b3 d0 d1 d2 d3 f0 f1 f2 f3; have x0 : wL.cell? ⟨w.heap.size, 0, none⟩ = some (.int .i64 3) := (by rw [← HO0.out.1]; exact HIL.out.D.x0); have x1 : wL.cell? ⟨w.heap.size, 1, none⟩ = some (.int .i64 key) := (by rw [← HO0.out.2.1]; exact HIL.out.D.x1); have x2 : wL.cell? ⟨w.heap.size, 2, none⟩ = some (.int .i64 val) := (by rw [← HO0.out.2.2.1]; exact HIL.out.D.x2); have x3 : wL.cell? ⟨w.heap.size, 3, none⟩ = some (.int .i64 hi) := (by rw [← HO0.out.2.2.2]; exact HIL.out.D.x3); have b0 : wL.cell? ⟨w1.heap.size, 0, none⟩ = some (.bool r.f0) := (blk_cell HIL.out.b8 0).trans rfl; have b1 : wL.cell? ⟨w1.heap.size, 1, none⟩ = some (.int .i64 r.f1) := (blk_cell HIL.out.b8 1).trans rfl; have b2 : wL.cell? ⟨w1.heap.size, 2, none⟩ = some (.int .i64 r.f2) := (blk_cell HIL.out.b8 2).trans rfl; have b3 : wL.cell? ⟨w1.heap.size, 3, none⟩ = some (.slice none 0 0) := (blk_cell HIL.out.b8 3).trans rfl; have d0 : wL.cell? ⟨w.heap.size + 1, 0, none⟩ = some (.bool false) := (blk_cell HIL.out.D.rt 0).trans rfl; have d1 : wL.cell? ⟨w.heap.size + 1, 1, none⟩ = some (.int .i64 0) := (blk_cell HIL.out.D.rt 1).trans rfl; have d2 : wL.cell? ⟨w.heap.size + 1, 2, none⟩ = some (.int .i64 0) := (blk_cell HIL.out.D.rt 2).trans rfl; have d3 : wL.cell? ⟨w.heap.size + 1, 3, none⟩ = some (.slice none 0 0) := (blk_cell HIL.out.D.rt 3).trans rfl; have f0 := blk_frozen HIL.out.D.rt 0; have f1 := blk_frozen HIL.out.D.rt 1; have f2 := blk_frozen HIL.out.D.rt 2; have f3 := blk_frozen HIL.out.D.rt 3; clear hoL hbL)
          | (at_builtin; refine Kd.R_append_rows k51 (w0 := w) w.heap.size rfl (.tmp 110) (.tmp 111) 22 51 (.agg #[(.int .i64 0), (.int .i64 0)]) 16 rfl Try.underlying22 info51 rfl (by decide) (by omega) vL ([] : List S51) l0 _ _ _ (fun _ => True) (fun _ => False) rfl rfl ?aO ?aR (fun _ _ h => h) (fun _ h => h.elim) ?aF ?aB ?aS ?aL ?_; (case aR => exact Kd.C_below hr0 HIL.out.HB); (case aB => exact HIL.out.HB); (case aF => exact (fun _ _ => trivial)); (case aO => exact HOL.out); (case aS => exact HIL.out.HB.size); (case aL => show (0 + l0.length) * 16 ≤ 140737488355328; omega); intro v12 wF hoF hbF hgF hatF; have HM := Aside0.mk hoF; have HIF := Aside0.mk (HIL.out.grown hgF (fun k hk => by have h1 := HOB.out k hk; have := HI.out.lt; omega) (Kd.R_nil _ _ _ _ _)); clear x0 x1 x2 x3 b0 b1 b2 b3 d0 d1 d2 d3 f0 f1 f2 f3; have x0 : wF.cell? ⟨w.heap.size, 0, none⟩ = some (.int .i64 3) := (by rw [← HO0.out.1]; exact HIF.out.D.x0); have x1 : wF.cell? ⟨w.heap.size, 1, none⟩ = some (.int .i64 key) := (by rw [← HO0.out.2.1]; exact HIF.out.D.x1); have x2 : wF.cell? ⟨w.heap.size, 2, none⟩ = some (.int .i64 val) := (by rw [← HO0.out.2.2.1]; exact HIF.out.D.x2); have x3 : wF.cell? ⟨w.heap.size, 3, none⟩ = some (.int .i64 hi) := (by rw [← HO0.out.2.2.2]; exact HIF.out.D.x3); have b0 : wF.cell? ⟨w1.heap.size, 0, none⟩ = some (.bool r.f0) := (blk_cell HIF.out.b8 0).trans rfl; have b1 : wF.cell? ⟨w1.heap.size, 1, none⟩ = some (.int .i64 r.f1) := (blk_cell HIF.out.b8 1).trans rfl; have b2 : wF.cell? ⟨w1.heap.size, 2, none⟩ = some (.int .i64 r.f2) := (blk_cell HIF.out.b8 2).trans rfl; have b3 : wF.cell? ⟨w1.heap.size, 3, none⟩ = some (.slice none 0 0) := (blk_cell HIF.out.b8 3).trans rfl; have d0 : wF.cell? ⟨w.heap.size + 1, 0, none⟩ = some (.bool false) := (blk_cell HIF.out.D.rt 0).trans rfl; have d1 : wF.cell? ⟨w.heap.size + 1, 1, none⟩ = some (.int .i64 0) := (blk_cell HIF.out.D.rt 1).trans rfl; have d2 : wF.cell? ⟨w.heap.size + 1, 2, none⟩ = some (.int .i64 0) := (blk_cell HIF.out.D.rt 2).trans rfl; have d3 : wF.cell? ⟨w.heap.size + 1, 3, none⟩ = some (.slice none 0 0) := (blk_cell HIF.out.D.rt 3).trans rfl; have f0 := blk_frozen HIF.out.D.rt 0; have f1 := blk_frozen HIF.out.D.rt 1; have f2 := blk_frozen HIF.out.D.rt 2; have f3 := blk_frozen HIF.out.D.rt 3; clear hoF hbF hgF hatF)
          | (go_at_call 45; refine (larchref06_with.calls k2 A0 c0 l0 key val false _ wF (Kd.C_below hr0 HIF.out.HB) hc0 HW.out).mono ?_; rintro e_ wF ⟨v12, rfl, hoF, hbF⟩; replace HM := Aside0.mk (Kd.R_lower hoF HIF.out.HB.size); replace HIF := Aside0.mk (HIF.out.below hbF); clear x0 x1 x2 x3 b0 b1 b2 b3 d0 d1 d2 d3 f0 f1 f2 f3; have x0 : wF.cell? ⟨w.heap.size, 0, none⟩ = some (.int .i64 3) := (by rw [← HO0.out.1]; exact HIF.out.D.x0); have x1 : wF.cell? ⟨w.heap.size, 1, none⟩ = some (.int .i64 key) := (by rw [← HO0.out.2.1]; exact HIF.out.D.x1); have x2 : wF.cell? ⟨w.heap.size, 2, none⟩ = some (.int .i64 val) := (by rw [← HO0.out.2.2.1]; exact HIF.out.D.x2); have x3 : wF.cell? ⟨w.heap.size, 3, none⟩ = some (.int .i64 hi) := (by rw [← HO0.out.2.2.2]; exact HIF.out.D.x3); have b0 : wF.cell? ⟨w1.heap.size, 0, none⟩ = some (.bool r.f0) := (blk_cell HIF.out.b8 0).trans rfl; have b1 : wF.cell? ⟨w1.heap.size, 1, none⟩ = some (.int .i64 r.f1) := (blk_cell HIF.out.b8 1).trans rfl; have b2 : wF.cell? ⟨w1.heap.size, 2, none⟩ = some (.int .i64 r.f2) := (blk_cell HIF.out.b8 2).trans rfl; have b3 : wF.cell? ⟨w1.heap.size, 3, none⟩ = some (.slice none 0 0) := (blk_cell HIF.out.b8 3).trans rfl; have d0 : wF.cell? ⟨w.heap.size + 1, 0, none⟩ = some (.bool false) := (blk_cell HIF.out.D.rt 0).trans rfl; have d1 : wF.cell? ⟨w.heap.size + 1, 1, none⟩ = some (.int .i64 0) := (blk_cell HIF.out.D.rt 1).trans rfl; have d2 : wF.cell? ⟨w.heap.size + 1, 2, none⟩ = some (.int .i64 0) := (blk_cell HIF.out.D.rt 2).trans rfl; have d3 : wF.cell? ⟨w.heap.size + 1, 3, none⟩ = some (.slice none 0 0) := (blk_cell HIF.out.D.rt 3).trans rfl; have f0 := blk_frozen HIF.out.D.rt 0; have f1 := blk_frozen HIF.out.D.rt 1; have f2 := blk_frozen HIF.out.D.rt 2; have f3 := blk_frozen HIF.out.D.rt 3; clear hoF hbF))
        go_region
        change Exit.then _ _ _ _ ((retW wF (w.heap.size + 1) r.f0 r.f1 r.f2 (.slice none 0 0)).drew)
        have hrt := ret_rt HIF.out.D.rt r.f0 r.f1 r.f2 (.slice none 0 0)
        have HE1 := Aside0.mk (Kd.R_drew (ret_R HIF.out.D.rt r.f0 r.f1 r.f2 (.slice none 0 0) HM.out))
        have HE2 := Aside0.mk (below_ret (b := r.f0) (x := r.f1) (y := r.f2) (v := .slice none 0 0) (g := w.heap.size + 1) HIF.out.HB (by omega))
        clear x0 x1 x2 x3 b0 b1 b2 b3 d0 d1 d2 d3 f0 f1 f2 f3
        go_wp2
        refine bodyPost_ret (results_list (rs := [.tmp 4, .cell 5 27]) rfl (by simp) (.tmp (.cell (w.heap.size + 1) 27 #[.bool r.f0, .int .i64 r.f1, .int .i64 r.f2, .slice none 0 0] (0, 0) _ rfl hrt Try.underlying27 rfl (by kernel_rfl) .nil))) rfl ?_
        refine ⟨v12, .slice none 0 0, by rw [← HRF.out]; rfl, ?_, ?_, HE2.out⟩
        · rw [show (stepL l0 o).1 = withL key val false l0 from by unfold stepL; simp [HO0.out.1, HO0.out.2.1, HO0.out.2.2.1, HLV.out]]
          exact Kd.R_mono HE1.out (fun k _ he => by simp [Value.ownBlock] at he)
        · rw [← HRF.out, HP.out]
          exact Kd.R_nil _ _ _ _ _
      | true =>
        go_wp2_with (first
          | ((with_reducible refine gate_dst (N := 110) rfl ?_); refine Kd.R_lit k51 _ 51 ?hg (N := 110) ?hd (xs := ([] : List S51)) (inner := []) (ok := fun _ => True) (okp := fun _ => True) ?hr ?hp (fun _ hk => hk) trivial (Below.refl _ _) (Nat.le_refl _) (by simp) ?_; (case hd => rfl); (case hg => rfl); (case hr => first | (go_simp; done) | (go_simp; rfl)); (case hp => exact Reps.none _ _); intro vL wL hoL hbL _ _; have HIL := Aside0.mk (HI.out.below hbL); have HOB := Aside0.mk (Kd.R_base hoL); have HOL := Aside0.mk (Kd.R_lower hoL HI.out.HB.size); clear x0 x1 x2 x3 b0 b1 b2 b3 d0 d1 d2 d3 f0 f1 f2 f3; have x0 : wL.cell? ⟨w.heap.size, 0, none⟩ = some (.int .i64 3) := (by rw [← HO0.out.1]; exact HIL.out.D.x0); have x1 : wL.cell? ⟨w.heap.size, 1, none⟩ = some (.int .i64 key) := (by rw [← HO0.out.2.1]; exact HIL.out.D.x1); have x2 : wL.cell? ⟨w.heap.size, 2, none⟩ = some (.int .i64 val) := (by rw [← HO0.out.2.2.1]; exact HIL.out.D.x2); have x3 : wL.cell? ⟨w.heap.size, 3, none⟩ = some (.int .i64 hi) := (by rw [← HO0.out.2.2.2]; exact HIL.out.D.x3); have b0 : wL.cell? ⟨w1.heap.size, 0, none⟩ = some (.bool r.f0) := (blk_cell HIL.out.b8 0).trans rfl; have b1 : wL.cell? ⟨w1.heap.size, 1, none⟩ = some (.int .i64 r.f1) := (blk_cell HIL.out.b8 1).trans rfl; have b2 : wL.cell? ⟨w1.heap.size, 2, none⟩ = some (.int .i64 r.f2) := (blk_cell HIL.out.b8 2).trans rfl; have b3 : wL.cell? ⟨w1.heap.size, 3, none⟩ = some (.slice none 0 0) := (blk_cell HIL.out.b8 3).trans rfl; have d0 : wL.cell? ⟨w.heap.size + 1, 0, none⟩ = some (.bool false) := (blk_cell HIL.out.D.rt 0).trans rfl; have d1 : wL.cell? ⟨w.heap.size + 1, 1, none⟩ = some (.int .i64 0) := (blk_cell HIL.out.D.rt 1).trans rfl; have d2 : wL.cell? ⟨w.heap.size + 1, 2, none⟩ = some (.int .i64 0) := (blk_cell HIL.out.D.rt 2).trans rfl; have d3 : wL.cell? ⟨w.heap.size + 1, 3, none⟩ = some (.slice none 0 0) := (blk_cell HIL.out.D.rt 3).trans rfl; have f0 := blk_frozen HIL.out.D.rt 0; have f1 := blk_frozen HIL.out.D.rt 1; have f2 := blk_frozen HIL.out.D.rt 2; have f3 := blk_frozen HIL.out.D.rt 3; clear hoL hbL)
          | (at_builtin; refine Kd.R_append_rows k51 (w0 := w) w.heap.size rfl (.tmp 110) (.tmp 111) 22 51 (.agg #[(.int .i64 0), (.int .i64 0)]) 16 rfl Try.underlying22 info51 rfl (by decide) (by omega) vL ([] : List S51) l0 _ _ _ (fun _ => True) (fun _ => False) rfl rfl ?aO ?aR (fun _ _ h => h) (fun _ h => h.elim) ?aF ?aB ?aS ?aL ?_; (case aR => exact Kd.C_below hr0 HIL.out.HB); (case aB => exact HIL.out.HB); (case aF => exact (fun _ _ => trivial)); (case aO => exact HOL.out); (case aS => exact HIL.out.HB.size); (case aL => show (0 + l0.length) * 16 ≤ 140737488355328; omega); intro v12 wF hoF hbF hgF hatF; have HM := Aside0.mk hoF; have HIF := Aside0.mk (HIL.out.grown hgF (fun k hk => by have h1 := HOB.out k hk; have := HI.out.lt; omega) (Kd.R_nil _ _ _ _ _)); clear x0 x1 x2 x3 b0 b1 b2 b3 d0 d1 d2 d3 f0 f1 f2 f3; have x0 : wF.cell? ⟨w.heap.size, 0, none⟩ = some (.int .i64 3) := (by rw [← HO0.out.1]; exact HIF.out.D.x0); have x1 : wF.cell? ⟨w.heap.size, 1, none⟩ = some (.int .i64 key) := (by rw [← HO0.out.2.1]; exact HIF.out.D.x1); have x2 : wF.cell? ⟨w.heap.size, 2, none⟩ = some (.int .i64 val) := (by rw [← HO0.out.2.2.1]; exact HIF.out.D.x2); have x3 : wF.cell? ⟨w.heap.size, 3, none⟩ = some (.int .i64 hi) := (by rw [← HO0.out.2.2.2]; exact HIF.out.D.x3); have b0 : wF.cell? ⟨w1.heap.size, 0, none⟩ = some (.bool r.f0) := (blk_cell HIF.out.b8 0).trans rfl; have b1 : wF.cell? ⟨w1.heap.size, 1, none⟩ = some (.int .i64 r.f1) := (blk_cell HIF.out.b8 1).trans rfl; have b2 : wF.cell? ⟨w1.heap.size, 2, none⟩ = some (.int .i64 r.f2) := (blk_cell HIF.out.b8 2).trans rfl; have b3 : wF.cell? ⟨w1.heap.size, 3, none⟩ = some (.slice none 0 0) := (blk_cell HIF.out.b8 3).trans rfl; have d0 : wF.cell? ⟨w.heap.size + 1, 0, none⟩ = some (.bool false) := (blk_cell HIF.out.D.rt 0).trans rfl; have d1 : wF.cell? ⟨w.heap.size + 1, 1, none⟩ = some (.int .i64 0) := (blk_cell HIF.out.D.rt 1).trans rfl; have d2 : wF.cell? ⟨w.heap.size + 1, 2, none⟩ = some (.int .i64 0) := (blk_cell HIF.out.D.rt 2).trans rfl; have d3 : wF.cell? ⟨w.heap.size + 1, 3, none⟩ = some (.slice none 0 0) := (blk_cell HIF.out.D.rt 3).trans rfl; have f0 := blk_frozen HIF.out.D.rt 0; have f1 := blk_frozen HIF.out.D.rt 1; have f2 := blk_frozen HIF.out.D.rt 2; have f3 := blk_frozen HIF.out.D.rt 3; clear hoF hbF hgF hatF))
        go_region
        change Exit.then _ _ _ _ ((retW wF (w.heap.size + 1) r.f0 r.f1 r.f2 (.slice none 0 0)).drew)
        have hrt := ret_rt HIF.out.D.rt r.f0 r.f1 r.f2 (.slice none 0 0)
        have HE1 := Aside0.mk (Kd.R_drew (ret_R HIF.out.D.rt r.f0 r.f1 r.f2 (.slice none 0 0) HM.out))
        have HE2 := Aside0.mk (below_ret (b := r.f0) (x := r.f1) (y := r.f2) (v := .slice none 0 0) (g := w.heap.size + 1) HIF.out.HB (by omega))
        clear x0 x1 x2 x3 b0 b1 b2 b3 d0 d1 d2 d3 f0 f1 f2 f3
        go_wp2
        refine bodyPost_ret (results_list (rs := [.tmp 4, .cell 5 27]) rfl (by simp) (.tmp (.cell (w.heap.size + 1) 27 #[.bool r.f0, .int .i64 r.f1, .int .i64 r.f2, .slice none 0 0] (0, 0) _ rfl hrt Try.underlying27 rfl (by kernel_rfl) .nil))) rfl ?_
        refine ⟨v12, .slice none 0 0, by rw [← HRF.out]; rfl, ?_, ?_, HE2.out⟩
        · rw [show (stepL l0 o).1 = l0 from by unfold stepL; simp [HO0.out.1, HO0.out.2.1, HO0.out.2.2.1, HLV.out]]
          exact Kd.R_mono HE1.out (fun k _ he => by simp [Value.ownBlock] at he)
        · rw [← HRF.out, HP.out]
          exact Kd.R_nil _ _ _ _ _
set_option maxHeartbeats 4000000 in
set_option maxRecDepth 100000 in
theorem step_4 (A0 : Option Addr) (c0 : Nat) (l0 : List S51) (key val hi : Int) (w : World) (hr0 : Kd.C k51 w A0 l0.length l0) (hc0 : l0.length ≤ c0) (hl : l0.length < 1000000000) :
    Calls Try.prog 39 #[.slice A0 l0.length c0, .agg #[.int .i64 4, .int .i64 key, .int .i64 val, .int .i64 hi]] w fun e w' => StP w (stepL l0 ⟨4, key, val, hi⟩).1 (stepL l0 ⟨4, key, val, hi⟩).2 e w' := by
  have hu25 := Try.underlying25
  have hu27 := Try.underlying27
  have hu51 := Try.underlying51
  obtain ⟨o, ho⟩ : ∃ o : S25, o = ⟨4, key, val, hi⟩ := ⟨_, rfl⟩
  rw [← ho]
  have HO0 : Aside0 (o.f0 = 4 ∧ o.f1 = key ∧ o.f2 = val ∧ o.f3 = hi) := ⟨by rw [ho]; exact ⟨rfl, rfl, rfl, rfl⟩⟩
  obtain ⟨k1, hk1⟩ := look_ev l0 hl key
  obtain ⟨lv, hlv⟩ : ∃ lv, lookL key l0 = lv := ⟨_, rfl⟩
  obtain ⟨q, th⟩ := lv
  have hlk := hk1 k1 (Nat.le_refl _)
  rw [hlv] at hlk
  have HLV := Aside0.mk hlv
  have HLK := Aside0.mk hlk
  clear hk1 hlv hlk
  have hD := DoW.start w o
  obtain ⟨Wa, hWa⟩ : ∃ Wa, Wa = (w.alloc (.cells #[.int .i64 4, .int .i64 key, .int .i64 val, .int .i64 hi] 25)).alloc (.cells #[.bool false, .int .i64 0, .int .i64 0, .slice none 0 0] 27) := ⟨_, rfl⟩
  rw [HO0.out.1, HO0.out.2.1, HO0.out.2.2.1, HO0.out.2.2.2, ← hWa] at hD
  have hBa : Below w.heap.size w Wa := by rw [hWa]; exact below_alloc (below_alloc (Below.refl _ _) _) _
  have HD := Aside0.mk hD
  have HBA := Aside0.mk hBa
  have HWA := Aside0.mk hWa
  have HS0 := Aside0.mk ho
  clear hD hBa hWa ho
  have x0 : Wa.cell? ⟨w.heap.size, 0, none⟩ = some (.int .i64 4) := by rw [← HO0.out.1]; exact HD.out.x0
  have x1 : Wa.cell? ⟨w.heap.size, 1, none⟩ = some (.int .i64 key) := by rw [← HO0.out.2.1]; exact HD.out.x1
  have x2 : Wa.cell? ⟨w.heap.size, 2, none⟩ = some (.int .i64 val) := by rw [← HO0.out.2.2.1]; exact HD.out.x2
  have x3 : Wa.cell? ⟨w.heap.size, 3, none⟩ = some (.int .i64 hi) := by rw [← HO0.out.2.2.2]; exact HD.out.x3
  go_enter Try.func39, Try.ntmps39
  go_wp2_with (first
    | (go_at_call 48; rw [← HWA.out]; refine (larchref06_look.calls k1 A0 c0 l0 key q th Wa (Kd.C_below hr0 HBA.out) hc0 HLK.out).mono ?_; rintro e w1 ⟨rfl, hd⟩; have HB1 := Aside0.mk (below_step HBA.out hd.below); have HD1 := Aside0.mk (HD.out.next (grown_below hd.below none) (by simp) (by simp)); have HDZ := Aside0.mk (HD1.out.next (grown_below (below_alloc (Below.refl w1.heap.size w1) (.cells #[.bool false, .int .i64 0, .int .i64 0, .slice none 0 0] 27)) none) (by simp) (by simp)); have HS : Aside0 (w.heap.size + 2 ≤ w1.heap.size) := ⟨by have := (Array.getElem?_eq_some_iff.1 HD1.out.rt).1; omega⟩; have HI : Aside0 (StI w (w1.alloc (.cells #[.bool th, .int .i64 0, .int .i64 q, .slice none 0 0] 27)) o w1.heap.size ⟨th, 0, q, []⟩ (.slice none 0 0) []) := ⟨⟨HD1.out.next (grown_below (below_alloc (Below.refl _ _) _) none) (by simp) (by simp), blk_new w1 _, below_alloc HB1.out _, HS.out, Kd.R_nil _ _ _ _ _⟩⟩; have y0 : (w1.alloc (.cells #[.bool false, .int .i64 0, .int .i64 0, .slice none 0 0] 27)).cell? ⟨w.heap.size, 0, none⟩ = some (.int .i64 4) := (by rw [← HO0.out.1]; exact HDZ.out.x0); have y1 : (w1.alloc (.cells #[.bool false, .int .i64 0, .int .i64 0, .slice none 0 0] 27)).cell? ⟨w.heap.size, 1, none⟩ = some (.int .i64 key) := (by rw [← HO0.out.2.1]; exact HDZ.out.x1); have y2 : (w1.alloc (.cells #[.bool false, .int .i64 0, .int .i64 0, .slice none 0 0] 27)).cell? ⟨w.heap.size, 2, none⟩ = some (.int .i64 val) := (by rw [← HO0.out.2.2.1]; exact HDZ.out.x2); have y3 : (w1.alloc (.cells #[.bool false, .int .i64 0, .int .i64 0, .slice none 0 0] 27)).cell? ⟨w.heap.size, 3, none⟩ = some (.int .i64 hi) := (by rw [← HO0.out.2.2.2]; exact HDZ.out.x3); clear hd x0 x1 x2 x3))
  go_loopw [9] (fun v9 W => ∃ (j : Nat) (r : S27), v9 = .int .i64 (j : Int) ∧ j ≤ l0.length ∧ Aside0 (stepGo o r (l0.drop j) = stepGo o ⟨th, 0, q, []⟩ l0) ∧ Aside0 (StI w W o w1.heap.size r (.slice none 0 0) []) ∧ Aside0 (r.f3 = [])) (fun v9 _ => l0.length - (intOf v9).toNat)
  case atStart => exact ⟨0, ⟨th, 0, q, []⟩, rfl, Nat.zero_le _, ⟨rfl⟩, HI, ⟨rfl⟩⟩
  case round =>
    clear HI y0 y1 y2 y3
    obtain ⟨j, r, rfl, hj, HG, HI, HP⟩ := hrel
    by_cases hlt : j < l0.length
    · obtain ⟨ad, ea, y0, y1⟩ := at_T51 (Kd.C_below hr0 HI.out.HB) (j : Int) (by omega) (by omega)
      subst ea
      rw [Int.toNat_natCast] at y0 y1
      have d1 : (0 : Int) ≤ (j : Int) := by omega
      have d2 : (j : Int) < (l0.length : Int) := by omega
      have x0 : wr.cell? ⟨w.heap.size, 0, none⟩ = some (.int .i64 4) := by rw [← HO0.out.1]; exact HI.out.D.x0
      have x1 : wr.cell? ⟨w.heap.size, 1, none⟩ = some (.int .i64 key) := by rw [← HO0.out.2.1]; exact HI.out.D.x1
      have x2 : wr.cell? ⟨w.heap.size, 2, none⟩ = some (.int .i64 val) := by rw [← HO0.out.2.2.1]; exact HI.out.D.x2
      have x3 : wr.cell? ⟨w.heap.size, 3, none⟩ = some (.int .i64 hi) := by rw [← HO0.out.2.2.2]; exact HI.out.D.x3
      have b0 : wr.cell? ⟨w1.heap.size, 0, none⟩ = some (.bool r.f0) := (blk_cell HI.out.b8 0).trans rfl
      have b1 : wr.cell? ⟨w1.heap.size, 1, none⟩ = some (.int .i64 r.f1) := (blk_cell HI.out.b8 1).trans rfl
      have b2 : wr.cell? ⟨w1.heap.size, 2, none⟩ = some (.int .i64 r.f2) := (blk_cell HI.out.b8 2).trans rfl
      have b3 : wr.cell? ⟨w1.heap.size, 3, none⟩ = some (.slice none 0 0) := (blk_cell HI.out.b8 3).trans rfl
      have f0 := blk_frozen HI.out.b8 0
      have f1 := blk_frozen HI.out.b8 1
      have f2 := blk_frozen HI.out.b8 2
      have f3 := blk_frozen HI.out.b8 3
      have y0' : (wr.alloc (.cells #[.bool false, .int .i64 0, .int .i64 0, .slice none 0 0] 27)).cell? (ad.add (j * 2)) = some (.int .i64 (J51 l0 (j : Int)).f0) := pw_cell_below (below_alloc (Below.refl _ _) _) y0
      have y1' : (wr.alloc (.cells #[.bool false, .int .i64 0, .int .i64 0, .slice none 0 0] 27)).cell? ⟨(ad.add (j * 2)).block, (ad.add (j * 2)).off + 1, none⟩ = some (.int .i64 (J51 l0 (j : Int)).f1) := pw_cell_below (below_alloc (Below.refl _ _) _) y1
      have hz := blk_new wr (.cells #[.bool false, .int .i64 0, .int .i64 0, .slice none 0 0] 27)
      have z0 : (wr.alloc (.cells #[.bool false, .int .i64 0, .int .i64 0, .slice none 0 0] 27)).cell? ⟨wr.heap.size, 0, none⟩ = some (.bool false) := (blk_cell hz 0).trans rfl
      have z1 : (wr.alloc (.cells #[.bool false, .int .i64 0, .int .i64 0, .slice none 0 0] 27)).cell? ⟨wr.heap.size, 1, none⟩ = some (.int .i64 0) := (blk_cell hz 1).trans rfl
      have z2 : (wr.alloc (.cells #[.bool false, .int .i64 0, .int .i64 0, .slice none 0 0] 27)).cell? ⟨wr.heap.size, 2, none⟩ = some (.int .i64 0) := (blk_cell hz 2).trans rfl
      have z3 : (wr.alloc (.cells #[.bool false, .int .i64 0, .int .i64 0, .slice none 0 0] 27)).cell? ⟨wr.heap.size, 3, none⟩ = some (.slice none 0 0) := (blk_cell hz 3).trans rfl
      have e0 := blk_frozen hz 0
      have e1 := blk_frozen hz 1
      have e2 := blk_frozen hz 2
      have e3 := blk_frozen hz 3
      have HZ := Aside0.mk hz
      clear hz
      go_wp2
      go_region
      obtain ⟨x, hx⟩ : ∃ x, x = J51 l0 (j : Int) := ⟨_, rfl⟩
      rw [← hx] at y0 y1 y0' y1' ⊢
      change Exit.then _ _ _ _ ((wr.alloc (.cells #[.bool true, .int .i64 x.f0, .int .i64 x.f1, .slice none 0 0] 27)).drew)
      clear y0' y1' z0 z1 z2 z3 e0 e1 e2 e3 f0 f1 f2 f3 b0 b1 b2 b3 x0 x1 x2 x3
      have h8n : w1.heap.size < wr.heap.size := (Array.getElem?_eq_some_iff.1 HI.out.b8).1
      have HY : Aside0 (((wr.alloc (.cells #[.bool true, .int .i64 x.f0, .int .i64 x.f1, .slice none 0 0] 27)).drew).heap[wr.heap.size]? = some (.cells (rC true x.f0 x.f1 (.slice none 0 0)) 27 (0, 0))) := ⟨blk_new wr _⟩
      have hbb : Below wr.heap.size wr ((wr.alloc (.cells #[.bool true, .int .i64 x.f0, .int .i64 x.f1, .slice none 0 0] 27)).drew) := below_drew1 (below_alloc (Below.refl _ _) _)
      have HI2 : Aside0 (StI w ((wr.alloc (.cells #[.bool true, .int .i64 x.f0, .int .i64 x.f1, .slice none 0 0] 27)).drew) o w1.heap.size r (.slice none 0 0) []) := ⟨⟨HI.out.D.next (grown_below hbb none) (by simp) (by simp), blk_below HI.out.b8 hbb, below_step HI.out.HB hbb, HI.out.n, Kd.R_nil _ _ _ _ _⟩⟩
      replace y0 := pw_cell_below hbb y0
      replace y1 := pw_cell_below hbb y1
      obtain ⟨n10, hn10⟩ : ∃ n10, n10 = wr.heap.size := ⟨_, rfl⟩
      rw [← hn10] at HY h8n ⊢
      clear hbb HI hn10
      generalize (wr.alloc (.cells #[.bool true, .int .i64 x.f0, .int .i64 x.f1, .slice none 0 0] 27)).drew = Wd at HY HI2 y0 y1 ⊢
      have HXX := Aside0.mk hx
      clear hx
      have x0 : Wd.cell? ⟨w.heap.size, 0, none⟩ = some (.int .i64 4) := by rw [← HO0.out.1]; exact HI2.out.D.x0
      have x1 : Wd.cell? ⟨w.heap.size, 1, none⟩ = some (.int .i64 key) := by rw [← HO0.out.2.1]; exact HI2.out.D.x1
      have x2 : Wd.cell? ⟨w.heap.size, 2, none⟩ = some (.int .i64 val) := by rw [← HO0.out.2.2.1]; exact HI2.out.D.x2
      have x3 : Wd.cell? ⟨w.heap.size, 3, none⟩ = some (.int .i64 hi) := by rw [← HO0.out.2.2.2]; exact HI2.out.D.x3
      have b0 : Wd.cell? ⟨w1.heap.size, 0, none⟩ = some (.bool r.f0) := (blk_cell HI2.out.b8 0).trans rfl
      have b1 : Wd.cell? ⟨w1.heap.size, 1, none⟩ = some (.int .i64 r.f1) := (blk_cell HI2.out.b8 1).trans rfl
      have b2 : Wd.cell? ⟨w1.heap.size, 2, none⟩ = some (.int .i64 r.f2) := (blk_cell HI2.out.b8 2).trans rfl
      have b3 : Wd.cell? ⟨w1.heap.size, 3, none⟩ = some (.slice none 0 0) := (blk_cell HI2.out.b8 3).trans rfl
      have z0 : Wd.cell? ⟨n10, 0, none⟩ = some (.bool true) := (blk_cell HY.out 0).trans rfl
      have z1 : Wd.cell? ⟨n10, 1, none⟩ = some (.int .i64 x.f0) := (blk_cell HY.out 1).trans rfl
      have z2 : Wd.cell? ⟨n10, 2, none⟩ = some (.int .i64 x.f1) := (blk_cell HY.out 2).trans rfl
      have z3 : Wd.cell? ⟨n10, 3, none⟩ = some (.slice none 0 0) := (blk_cell HY.out 3).trans rfl
      have f0 := blk_frozen HI2.out.b8 0
      have f1 := blk_frozen HI2.out.b8 1
      have f2 := blk_frozen HI2.out.b8 2
      have f3 := blk_frozen HI2.out.b8 3
      have hg := HG.out
      rw [drop51c l0 j hlt, ← HXX.out, stepGo] at hg
      rw [show hitB o r x = false from by unfold hitB; simp [HO0.out.1, HO0.out.2.1], if_neg (by decide)] at hg
      have HG2 := Aside0.mk hg
      clear hg
      go_wp2
      go_region
      go_wp2
      go_roundw
      case rel => exact ⟨j + 1, r, by go_num, by omega, HG2, ⟨⟨HI2.out.D.next (grown_below (below_drew1 (Below.refl _ _)) none) (by simp) (by simp), HI2.out.b8, below_drew1 HI2.out.HB, HI2.out.n, Kd.R_nil _ _ _ _ _⟩⟩, HP⟩
      case measure => simp [intOf]; omega
    · obtain rfl : j = l0.length := by omega
      have hg := HG.out
      rw [List.drop_length, stepGo] at hg
      have h0 : step0 l0 o = ⟨th, 0, q, []⟩ := by unfold step0; simp [HO0.out.1, HO0.out.2.1, HO0.out.2.2.2, HLV.out, zR]
      have HRF : Aside0 (r = (stepL l0 o).2) := ⟨by show r = stepGo o (step0 l0 o) l0; rw [h0]; exact hg⟩
      clear hg h0 HG hj hlt
      have x0 : wr.cell? ⟨w.heap.size, 0, none⟩ = some (.int .i64 4) := (by rw [← HO0.out.1]; exact HI.out.D.x0); have x1 : wr.cell? ⟨w.heap.size, 1, none⟩ = some (.int .i64 key) := (by rw [← HO0.out.2.1]; exact HI.out.D.x1); have x2 : wr.cell? ⟨w.heap.size, 2, none⟩ = some (.int .i64 val) := (by rw [← HO0.out.2.2.1]; exact HI.out.D.x2); have x3 : wr.cell? ⟨w.heap.size, 3, none⟩ = some (.int .i64 hi) := (by rw [← HO0.out.2.2.2]; exact HI.out.D.x3); have b0 : wr.cell? ⟨w1.heap.size, 0, none⟩ = some (.bool r.f0) := (blk_cell HI.out.b8 0).trans rfl; have b1 : wr.cell? ⟨w1.heap.size, 1, none⟩ = some (.int .i64 r.f1) := (blk_cell HI.out.b8 1).trans rfl; have b2 : wr.cell? ⟨w1.heap.size, 2, none⟩ = some (.int .i64 r.f2) := (blk_cell HI.out.b8 2).trans rfl; have b3 : wr.cell? ⟨w1.heap.size, 3, none⟩ = some (.slice none 0 0) := (blk_cell HI.out.b8 3).trans rfl; have d0 : wr.cell? ⟨w.heap.size + 1, 0, none⟩ = some (.bool false) := (blk_cell HI.out.D.rt 0).trans rfl; have d1 : wr.cell? ⟨w.heap.size + 1, 1, none⟩ = some (.int .i64 0) := (blk_cell HI.out.D.rt 1).trans rfl; have d2 : wr.cell? ⟨w.heap.size + 1, 2, none⟩ = some (.int .i64 0) := (blk_cell HI.out.D.rt 2).trans rfl; have d3 : wr.cell? ⟨w.heap.size + 1, 3, none⟩ = some (.slice none 0 0) := (blk_cell HI.out.D.rt 3).trans rfl; have f0 := blk_frozen HI.out.D.rt 0; have f1 := blk_frozen HI.out.D.rt 1; have f2 := blk_frozen HI.out.D.rt 2; have f3 := blk_frozen HI.out.D.rt 3
      obtain ⟨k2, hk2⟩ := with_ev l0 hl key 0 true
      have HW := Aside0.mk (hk2 k2 (Nat.le_refl _))
      clear hk2
      go_wp2_with (first
        | ((with_reducible refine gate_dst (N := 110) rfl ?_); refine Kd.R_lit k51 _ 51 ?hg (N := 110) ?hd (xs := ([] : List S51)) (inner := []) (ok := fun _ => True) (okp := fun _ => True) ?hr ?hp (fun _ hk => hk) trivial (Below.refl _ _) (Nat.le_refl _) (by simp) ?_; (case hd => rfl); (case hg => rfl); (case hr => first | (go_simp; done) | (go_simp; rfl)); (case hp => exact Reps.none _ _); intro vL wL hoL hbL _ _; have HIL := Aside0.mk (HI.out.below hbL); have HOB := Aside0.mk (Kd.R_base hoL); have HOL := Aside0.mk (Kd.R_lower hoL HI.out.HB.size); clear x0 x1 x2 x3 b0 b1 b2 b3 d0 d1 d2 d3 f0 f1 f2 f3; have x0 : wL.cell? ⟨w.heap.size, 0, none⟩ = some (.int .i64 4) := (by rw [← HO0.out.1]; exact HIL.out.D.x0); have x1 : wL.cell? ⟨w.heap.size, 1, none⟩ = some (.int .i64 key) := (by rw [← HO0.out.2.1]; exact HIL.out.D.x1); have x2 : wL.cell? ⟨w.heap.size, 2, none⟩ = some (.int .i64 val) := (by rw [← HO0.out.2.2.1]; exact HIL.out.D.x2); have x3 : wL.cell? ⟨w.heap.size, 3, none⟩ = some (.int .i64 hi) := (by rw [← HO0.out.2.2.2]; exact HIL.out.D.x3); have b0 : wL.cell? ⟨w1.heap.size, 0, none⟩ = some (.bool r.f0) := (blk_cell HIL.out.b8 0).trans rfl; have b1 : wL.cell? ⟨w1.heap.size, 1, none⟩ = some (.int .i64 r.f1) := (blk_cell HIL.out.b8 1).trans rfl; have b2 : wL.cell? ⟨w1.heap.size, 2, none⟩ = some (.int .i64 r.f2) := (blk_cell HIL.out.b8 2).trans rfl; have b3 : wL.cell? ⟨w1.heap.size, 3, none⟩ = some (.slice none 0 0) := (blk_cell HIL.out.b8 3).trans rfl; have d0 : wL.cell? ⟨w.heap.size + 1, 0, none⟩ = some (.bool false) := (blk_cell HIL.out.D.rt 0).trans rfl; have d1 : wL.cell? ⟨w.heap.size + 1, 1, none⟩ = some (.int .i64 0) := (blk_cell HIL.out.D.rt 1).trans rfl; have d2 : wL.cell? ⟨w.heap.size + 1, 2, none⟩ = some (.int .i64 0) := (blk_cell HIL.out.D.rt 2).trans rfl; have d3 : wL.cell? ⟨w.heap.size + 1, 3, none⟩ = some (.slice none 0 0) := (blk_cell HIL.out.D.rt 3).trans rfl; have f0 := blk_frozen HIL.out.D.rt 0; have f1 := blk_frozen HIL.out.D.rt 1; have f2 := blk_frozen HIL.out.D.rt 2; have f3 := blk_frozen HIL.out.D.rt 3; clear hoL hbL)
        | (at_builtin; refine Kd.R_append_rows k51 (w0 := w) w.heap.size rfl (.tmp 110) (.tmp 111) 22 51 (.agg #[(.int .i64 0), (.int .i64 0)]) 16 rfl Try.underlying22 info51 rfl (by decide) (by omega) vL ([] : List S51) l0 _ _ _ (fun _ => True) (fun _ => False) rfl rfl ?aO ?aR (fun _ _ h => h) (fun _ h => h.elim) ?aF ?aB ?aS ?aL ?_; (case aR => exact Kd.C_below hr0 HIL.out.HB); (case aB => exact HIL.out.HB); (case aF => exact (fun _ _ => trivial)); (case aO => exact HOL.out); (case aS => exact HIL.out.HB.size); (case aL => show (0 + l0.length) * 16 ≤ 140737488355328; omega); intro v12 wF hoF hbF hgF hatF; have HM := Aside0.mk hoF; have HIF := Aside0.mk (HIL.out.grown hgF (fun k hk => by have h1 := HOB.out k hk; have := HI.out.lt; omega) (Kd.R_nil _ _ _ _ _)); clear x0 x1 x2 x3 b0 b1 b2 b3 d0 d1 d2 d3 f0 f1 f2 f3; have x0 : wF.cell? ⟨w.heap.size, 0, none⟩ = some (.int .i64 4) := (by rw [← HO0.out.1]; exact HIF.out.D.x0); have x1 : wF.cell? ⟨w.heap.size, 1, none⟩ = some (.int .i64 key) := (by rw [← HO0.out.2.1]; exact HIF.out.D.x1); have x2 : wF.cell? ⟨w.heap.size, 2, none⟩ = some (.int .i64 val) := (by rw [← HO0.out.2.2.1]; exact HIF.out.D.x2); have x3 : wF.cell? ⟨w.heap.size, 3, none⟩ = some (.int .i64 hi) := (by rw [← HO0.out.2.2.2]; exact HIF.out.D.x3); have b0 : wF.cell? ⟨w1.heap.size, 0, none⟩ = some (.bool r.f0) := (blk_cell HIF.out.b8 0).trans rfl; have b1 : wF.cell? ⟨w1.heap.size, 1, none⟩ = some (.int .i64 r.f1) := (blk_cell HIF.out.b8 1).trans rfl; have b2 : wF.cell? ⟨w1.heap.size, 2, none⟩ = some (.int .i64 r.f2) := (blk_cell HIF.out.b8 2).trans rfl; have b3 : wF.cell? ⟨w1.heap.size, 3, none⟩ = some (.slice none 0 0) := (blk_cell HIF.out.b8 3).trans rfl; have d0 : wF.cell? ⟨w.heap.size + 1, 0, none⟩ = some (.bool false) := (blk_cell HIF.out.D.rt 0).trans rfl; have d1 : wF.cell? ⟨w.heap.size + 1, 1, none⟩ = some (.int .i64 0) := (blk_cell HIF.out.D.rt 1).trans rfl; have d2 : wF.cell? ⟨w.heap.size + 1, 2, none⟩ = some (.int .i64 0) := (blk_cell HIF.out.D.rt 2).trans rfl; have d3 : wF.cell? ⟨w.heap.size + 1, 3, none⟩ = some (.slice none 0 0) := (blk_cell HIF.out.D.rt 3).trans rfl; have f0 := blk_frozen HIF.out.D.rt 0; have f1 := blk_frozen HIF.out.D.rt 1; have f2 := blk_frozen HIF.out.D.rt 2; have f3 := blk_frozen HIF.out.D.rt 3; clear hoF hbF hgF hatF)
        | (go_at_call 45; refine (larchref06_with.calls k2 A0 c0 l0 key 0 true _ wF (Kd.C_below hr0 HIF.out.HB) hc0 HW.out).mono ?_; rintro e_ wF ⟨v12, rfl, hoF, hbF⟩; replace HM := Aside0.mk (Kd.R_lower hoF HIF.out.HB.size); replace HIF := Aside0.mk (HIF.out.below hbF); clear x0 x1 x2 x3 b0 b1 b2 b3 d0 d1 d2 d3 f0 f1 f2 f3; have x0 : wF.cell? ⟨w.heap.size, 0, none⟩ = some (.int .i64 4) := (by rw [← HO0.out.1]; exact HIF.out.D.x0); have x1 : wF.cell? ⟨w.heap.size, 1, none⟩ = some (.int .i64 key) := (by rw [← HO0.out.2.1]; exact HIF.out.D.x1); have x2 : wF.cell? ⟨w.heap.size, 2, none⟩ = some (.int .i64 val) := (by rw [← HO0.out.2.2.1]; exact HIF.out.D.x2); have x3 : wF.cell? ⟨w.heap.size, 3, none⟩ = some (.int .i64 hi) := (by rw [← HO0.out.2.2.2]; exact HIF.out.D.x3); have b0 : wF.cell? ⟨w1.heap.size, 0, none⟩ = some (.bool r.f0) := (blk_cell HIF.out.b8 0).trans rfl; have b1 : wF.cell? ⟨w1.heap.size, 1, none⟩ = some (.int .i64 r.f1) := (blk_cell HIF.out.b8 1).trans rfl; have b2 : wF.cell? ⟨w1.heap.size, 2, none⟩ = some (.int .i64 r.f2) := (blk_cell HIF.out.b8 2).trans rfl; have b3 : wF.cell? ⟨w1.heap.size, 3, none⟩ = some (.slice none 0 0) := (blk_cell HIF.out.b8 3).trans rfl; have d0 : wF.cell? ⟨w.heap.size + 1, 0, none⟩ = some (.bool false) := (blk_cell HIF.out.D.rt 0).trans rfl; have d1 : wF.cell? ⟨w.heap.size + 1, 1, none⟩ = some (.int .i64 0) := (blk_cell HIF.out.D.rt 1).trans rfl; have d2 : wF.cell? ⟨w.heap.size + 1, 2, none⟩ = some (.int .i64 0) := (blk_cell HIF.out.D.rt 2).trans rfl; have d3 : wF.cell? ⟨w.heap.size + 1, 3, none⟩ = some (.slice none 0 0) := (blk_cell HIF.out.D.rt 3).trans rfl; have f0 := blk_frozen HIF.out.D.rt 0; have f1 := blk_frozen HIF.out.D.rt 1; have f2 := blk_frozen HIF.out.D.rt 2; have f3 := blk_frozen HIF.out.D.rt 3; clear hoF hbF))
      go_region
      change Exit.then _ _ _ _ ((retW wF (w.heap.size + 1) r.f0 r.f1 r.f2 (.slice none 0 0)).drew)
      have hrt := ret_rt HIF.out.D.rt r.f0 r.f1 r.f2 (.slice none 0 0)
      have HE1 := Aside0.mk (Kd.R_drew (ret_R HIF.out.D.rt r.f0 r.f1 r.f2 (.slice none 0 0) HM.out))
      have HE2 := Aside0.mk (below_ret (b := r.f0) (x := r.f1) (y := r.f2) (v := .slice none 0 0) (g := w.heap.size + 1) HIF.out.HB (by omega))
      clear x0 x1 x2 x3 b0 b1 b2 b3 d0 d1 d2 d3 f0 f1 f2 f3
      go_wp2
      refine bodyPost_ret (results_list (rs := [.tmp 4, .cell 5 27]) rfl (by simp) (.tmp (.cell (w.heap.size + 1) 27 #[.bool r.f0, .int .i64 r.f1, .int .i64 r.f2, .slice none 0 0] (0, 0) _ rfl hrt Try.underlying27 rfl (by kernel_rfl) .nil))) rfl ?_
      refine ⟨v12, .slice none 0 0, by rw [← HRF.out]; rfl, ?_, ?_, HE2.out⟩
      · rw [show (stepL l0 o).1 = withL key 0 true l0 from by unfold stepL; simp [HO0.out.1, HO0.out.2.1, HO0.out.2.2.1, HLV.out]]
        exact Kd.R_mono HE1.out (fun k _ he => by simp [Value.ownBlock] at he)
      · rw [← HRF.out, HP.out]
        exact Kd.R_nil _ _ _ _ _
set_option maxHeartbeats 4000000 in
set_option maxRecDepth 100000 in
theorem step_8 (A0 : Option Addr) (c0 : Nat) (l0 : List S51) (key val hi : Int) (w : World) (hr0 : Kd.C k51 w A0 l0.length l0) (hc0 : l0.length ≤ c0) (hl : l0.length < 1000000000) :
    Calls Try.prog 39 #[.slice A0 l0.length c0, .agg #[.int .i64 8, .int .i64 key, .int .i64 val, .int .i64 hi]] w fun e w' => StP w (stepL l0 ⟨8, key, val, hi⟩).1 (stepL l0 ⟨8, key, val, hi⟩).2 e w' := by
  have hu25 := Try.underlying25
  have hu27 := Try.underlying27
  have hu51 := Try.underlying51
  obtain ⟨o, ho⟩ : ∃ o : S25, o = ⟨8, key, val, hi⟩ := ⟨_, rfl⟩
  rw [← ho]
  have HO0 : Aside0 (o.f0 = 8 ∧ o.f1 = key ∧ o.f2 = val ∧ o.f3 = hi) := ⟨by rw [ho]; exact ⟨rfl, rfl, rfl, rfl⟩⟩
  obtain ⟨k1, hk1⟩ := look_ev l0 hl key
  obtain ⟨lv, hlv⟩ : ∃ lv, lookL key l0 = lv := ⟨_, rfl⟩
  obtain ⟨q, th⟩ := lv
  have hlk := hk1 k1 (Nat.le_refl _)
  rw [hlv] at hlk
  have HLV := Aside0.mk hlv
  have HLK := Aside0.mk hlk
  clear hk1 hlv hlk
  have hD := DoW.start w o
  obtain ⟨Wa, hWa⟩ : ∃ Wa, Wa = (w.alloc (.cells #[.int .i64 8, .int .i64 key, .int .i64 val, .int .i64 hi] 25)).alloc (.cells #[.bool false, .int .i64 0, .int .i64 0, .slice none 0 0] 27) := ⟨_, rfl⟩
  rw [HO0.out.1, HO0.out.2.1, HO0.out.2.2.1, HO0.out.2.2.2, ← hWa] at hD
  have hBa : Below w.heap.size w Wa := by rw [hWa]; exact below_alloc (below_alloc (Below.refl _ _) _) _
  have HD := Aside0.mk hD
  have HBA := Aside0.mk hBa
  have HWA := Aside0.mk hWa
  have HS0 := Aside0.mk ho
  clear hD hBa hWa ho
  have x0 : Wa.cell? ⟨w.heap.size, 0, none⟩ = some (.int .i64 8) := by rw [← HO0.out.1]; exact HD.out.x0
  have x1 : Wa.cell? ⟨w.heap.size, 1, none⟩ = some (.int .i64 key) := by rw [← HO0.out.2.1]; exact HD.out.x1
  have x2 : Wa.cell? ⟨w.heap.size, 2, none⟩ = some (.int .i64 val) := by rw [← HO0.out.2.2.1]; exact HD.out.x2
  have x3 : Wa.cell? ⟨w.heap.size, 3, none⟩ = some (.int .i64 hi) := by rw [← HO0.out.2.2.2]; exact HD.out.x3
  go_enter Try.func39, Try.ntmps39
  go_wp2_with (first
    | (go_at_call 48; rw [← HWA.out]; refine (larchref06_look.calls k1 A0 c0 l0 key q th Wa (Kd.C_below hr0 HBA.out) hc0 HLK.out).mono ?_; rintro e w1 ⟨rfl, hd⟩; have HB1 := Aside0.mk (below_step HBA.out hd.below); have HD1 := Aside0.mk (HD.out.next (grown_below hd.below none) (by simp) (by simp)); have HDZ := Aside0.mk (HD1.out.next (grown_below (below_alloc (Below.refl w1.heap.size w1) (.cells #[.bool false, .int .i64 0, .int .i64 0, .slice none 0 0] 27)) none) (by simp) (by simp)); have HS : Aside0 (w.heap.size + 2 ≤ w1.heap.size) := ⟨by have := (Array.getElem?_eq_some_iff.1 HD1.out.rt).1; omega⟩; have HI : Aside0 (StI w (w1.alloc (.cells #[.bool false, .int .i64 0, .int .i64 0, .slice none 0 0] 27)) o w1.heap.size ⟨false, 0, 0, []⟩ (.slice none 0 0) []) := ⟨⟨HD1.out.next (grown_below (below_alloc (Below.refl _ _) _) none) (by simp) (by simp), blk_new w1 _, below_alloc HB1.out _, HS.out, Kd.R_nil _ _ _ _ _⟩⟩; have y0 : (w1.alloc (.cells #[.bool false, .int .i64 0, .int .i64 0, .slice none 0 0] 27)).cell? ⟨w.heap.size, 0, none⟩ = some (.int .i64 8) := (by rw [← HO0.out.1]; exact HDZ.out.x0); have y1 : (w1.alloc (.cells #[.bool false, .int .i64 0, .int .i64 0, .slice none 0 0] 27)).cell? ⟨w.heap.size, 1, none⟩ = some (.int .i64 key) := (by rw [← HO0.out.2.1]; exact HDZ.out.x1); have y2 : (w1.alloc (.cells #[.bool false, .int .i64 0, .int .i64 0, .slice none 0 0] 27)).cell? ⟨w.heap.size, 2, none⟩ = some (.int .i64 val) := (by rw [← HO0.out.2.2.1]; exact HDZ.out.x2); have y3 : (w1.alloc (.cells #[.bool false, .int .i64 0, .int .i64 0, .slice none 0 0] 27)).cell? ⟨w.heap.size, 3, none⟩ = some (.int .i64 hi) := (by rw [← HO0.out.2.2.2]; exact HDZ.out.x3); clear hd x0 x1 x2 x3))
  go_loopw [9] (fun v9 W => ∃ (j : Nat) (r : S27), v9 = .int .i64 (j : Int) ∧ j ≤ l0.length ∧ Aside0 (stepGo o r (l0.drop j) = stepGo o ⟨false, 0, 0, []⟩ l0) ∧ Aside0 (StI w W o w1.heap.size r (.slice none 0 0) []) ∧ Aside0 (r.f3 = [])) (fun v9 _ => l0.length - (intOf v9).toNat)
  case atStart => exact ⟨0, ⟨false, 0, 0, []⟩, rfl, Nat.zero_le _, ⟨rfl⟩, HI, ⟨rfl⟩⟩
  case round =>
    clear HI y0 y1 y2 y3
    obtain ⟨j, r, rfl, hj, HG, HI, HP⟩ := hrel
    by_cases hlt : j < l0.length
    · obtain ⟨ad, ea, y0, y1⟩ := at_T51 (Kd.C_below hr0 HI.out.HB) (j : Int) (by omega) (by omega)
      subst ea
      rw [Int.toNat_natCast] at y0 y1
      have d1 : (0 : Int) ≤ (j : Int) := by omega
      have d2 : (j : Int) < (l0.length : Int) := by omega
      have x0 : wr.cell? ⟨w.heap.size, 0, none⟩ = some (.int .i64 8) := by rw [← HO0.out.1]; exact HI.out.D.x0
      have x1 : wr.cell? ⟨w.heap.size, 1, none⟩ = some (.int .i64 key) := by rw [← HO0.out.2.1]; exact HI.out.D.x1
      have x2 : wr.cell? ⟨w.heap.size, 2, none⟩ = some (.int .i64 val) := by rw [← HO0.out.2.2.1]; exact HI.out.D.x2
      have x3 : wr.cell? ⟨w.heap.size, 3, none⟩ = some (.int .i64 hi) := by rw [← HO0.out.2.2.2]; exact HI.out.D.x3
      have b0 : wr.cell? ⟨w1.heap.size, 0, none⟩ = some (.bool r.f0) := (blk_cell HI.out.b8 0).trans rfl
      have b1 : wr.cell? ⟨w1.heap.size, 1, none⟩ = some (.int .i64 r.f1) := (blk_cell HI.out.b8 1).trans rfl
      have b2 : wr.cell? ⟨w1.heap.size, 2, none⟩ = some (.int .i64 r.f2) := (blk_cell HI.out.b8 2).trans rfl
      have b3 : wr.cell? ⟨w1.heap.size, 3, none⟩ = some (.slice none 0 0) := (blk_cell HI.out.b8 3).trans rfl
      have f0 := blk_frozen HI.out.b8 0
      have f1 := blk_frozen HI.out.b8 1
      have f2 := blk_frozen HI.out.b8 2
      have f3 := blk_frozen HI.out.b8 3
      have y0' : (wr.alloc (.cells #[.bool false, .int .i64 0, .int .i64 0, .slice none 0 0] 27)).cell? (ad.add (j * 2)) = some (.int .i64 (J51 l0 (j : Int)).f0) := pw_cell_below (below_alloc (Below.refl _ _) _) y0
      have y1' : (wr.alloc (.cells #[.bool false, .int .i64 0, .int .i64 0, .slice none 0 0] 27)).cell? ⟨(ad.add (j * 2)).block, (ad.add (j * 2)).off + 1, none⟩ = some (.int .i64 (J51 l0 (j : Int)).f1) := pw_cell_below (below_alloc (Below.refl _ _) _) y1
      have hz := blk_new wr (.cells #[.bool false, .int .i64 0, .int .i64 0, .slice none 0 0] 27)
      have z0 : (wr.alloc (.cells #[.bool false, .int .i64 0, .int .i64 0, .slice none 0 0] 27)).cell? ⟨wr.heap.size, 0, none⟩ = some (.bool false) := (blk_cell hz 0).trans rfl
      have z1 : (wr.alloc (.cells #[.bool false, .int .i64 0, .int .i64 0, .slice none 0 0] 27)).cell? ⟨wr.heap.size, 1, none⟩ = some (.int .i64 0) := (blk_cell hz 1).trans rfl
      have z2 : (wr.alloc (.cells #[.bool false, .int .i64 0, .int .i64 0, .slice none 0 0] 27)).cell? ⟨wr.heap.size, 2, none⟩ = some (.int .i64 0) := (blk_cell hz 2).trans rfl
      have z3 : (wr.alloc (.cells #[.bool false, .int .i64 0, .int .i64 0, .slice none 0 0] 27)).cell? ⟨wr.heap.size, 3, none⟩ = some (.slice none 0 0) := (blk_cell hz 3).trans rfl
      have e0 := blk_frozen hz 0
      have e1 := blk_frozen hz 1
      have e2 := blk_frozen hz 2
      have e3 := blk_frozen hz 3
      have HZ := Aside0.mk hz
      clear hz
      go_wp2
      go_region
      obtain ⟨x, hx⟩ : ∃ x, x = J51 l0 (j : Int) := ⟨_, rfl⟩
      rw [← hx] at y0 y1 y0' y1' ⊢
      change Exit.then _ _ _ _ ((wr.alloc (.cells #[.bool true, .int .i64 x.f0, .int .i64 x.f1, .slice none 0 0] 27)).drew)
      clear y0' y1' z0 z1 z2 z3 e0 e1 e2 e3 f0 f1 f2 f3 b0 b1 b2 b3 x0 x1 x2 x3
      have h8n : w1.heap.size < wr.heap.size := (Array.getElem?_eq_some_iff.1 HI.out.b8).1
      have HY : Aside0 (((wr.alloc (.cells #[.bool true, .int .i64 x.f0, .int .i64 x.f1, .slice none 0 0] 27)).drew).heap[wr.heap.size]? = some (.cells (rC true x.f0 x.f1 (.slice none 0 0)) 27 (0, 0))) := ⟨blk_new wr _⟩
      have hbb : Below wr.heap.size wr ((wr.alloc (.cells #[.bool true, .int .i64 x.f0, .int .i64 x.f1, .slice none 0 0] 27)).drew) := below_drew1 (below_alloc (Below.refl _ _) _)
      have HI2 : Aside0 (StI w ((wr.alloc (.cells #[.bool true, .int .i64 x.f0, .int .i64 x.f1, .slice none 0 0] 27)).drew) o w1.heap.size r (.slice none 0 0) []) := ⟨⟨HI.out.D.next (grown_below hbb none) (by simp) (by simp), blk_below HI.out.b8 hbb, below_step HI.out.HB hbb, HI.out.n, Kd.R_nil _ _ _ _ _⟩⟩
      replace y0 := pw_cell_below hbb y0
      replace y1 := pw_cell_below hbb y1
      obtain ⟨n10, hn10⟩ : ∃ n10, n10 = wr.heap.size := ⟨_, rfl⟩
      rw [← hn10] at HY h8n ⊢
      clear hbb HI hn10
      generalize (wr.alloc (.cells #[.bool true, .int .i64 x.f0, .int .i64 x.f1, .slice none 0 0] 27)).drew = Wd at HY HI2 y0 y1 ⊢
      have HXX := Aside0.mk hx
      clear hx
      have x0 : Wd.cell? ⟨w.heap.size, 0, none⟩ = some (.int .i64 8) := by rw [← HO0.out.1]; exact HI2.out.D.x0
      have x1 : Wd.cell? ⟨w.heap.size, 1, none⟩ = some (.int .i64 key) := by rw [← HO0.out.2.1]; exact HI2.out.D.x1
      have x2 : Wd.cell? ⟨w.heap.size, 2, none⟩ = some (.int .i64 val) := by rw [← HO0.out.2.2.1]; exact HI2.out.D.x2
      have x3 : Wd.cell? ⟨w.heap.size, 3, none⟩ = some (.int .i64 hi) := by rw [← HO0.out.2.2.2]; exact HI2.out.D.x3
      have b0 : Wd.cell? ⟨w1.heap.size, 0, none⟩ = some (.bool r.f0) := (blk_cell HI2.out.b8 0).trans rfl
      have b1 : Wd.cell? ⟨w1.heap.size, 1, none⟩ = some (.int .i64 r.f1) := (blk_cell HI2.out.b8 1).trans rfl
      have b2 : Wd.cell? ⟨w1.heap.size, 2, none⟩ = some (.int .i64 r.f2) := (blk_cell HI2.out.b8 2).trans rfl
      have b3 : Wd.cell? ⟨w1.heap.size, 3, none⟩ = some (.slice none 0 0) := (blk_cell HI2.out.b8 3).trans rfl
      have z0 : Wd.cell? ⟨n10, 0, none⟩ = some (.bool true) := (blk_cell HY.out 0).trans rfl
      have z1 : Wd.cell? ⟨n10, 1, none⟩ = some (.int .i64 x.f0) := (blk_cell HY.out 1).trans rfl
      have z2 : Wd.cell? ⟨n10, 2, none⟩ = some (.int .i64 x.f1) := (blk_cell HY.out 2).trans rfl
      have z3 : Wd.cell? ⟨n10, 3, none⟩ = some (.slice none 0 0) := (blk_cell HY.out 3).trans rfl
      have f0 := blk_frozen HI2.out.b8 0
      have f1 := blk_frozen HI2.out.b8 1
      have f2 := blk_frozen HI2.out.b8 2
      have f3 := blk_frozen HI2.out.b8 3
      have hg := HG.out
      rw [drop51c l0 j hlt, ← HXX.out, stepGo] at hg
      rw [show hitB o r x = true from by unfold hitB; simp [HO0.out.1, HO0.out.2.1], if_pos rfl] at hg
      have HG2 := Aside0.mk hg
      clear hg
      go_wp2
      go_region
      go_wp2
      go_roundw
      case rel => exact ⟨j + 1, ⟨true, x.f0, x.f1, []⟩, by go_num, by omega, HG2, ⟨⟨(HI2.out.D.next (ret_by Wd w1.heap.size true x.f0 x.f1 (.slice none 0 0)) (by have := HI2.out.n; simp; omega) (by have := HI2.out.n; simp; omega)), ret_rt HI2.out.b8 true x.f0 x.f1 (.slice none 0 0), below_ret HI2.out.HB (by have := HI2.out.n; omega), HI2.out.n, Kd.R_nil _ _ _ _ _⟩⟩, ⟨rfl⟩⟩
      case measure => simp [intOf]; omega
    · obtain rfl : j = l0.length := by omega
      have hg := HG.out
      rw [List.drop_length, stepGo] at hg
      have h0 : step0 l0 o = ⟨false, 0, 0, []⟩ := by unfold step0; simp [HO0.out.1, HO0.out.2.1, HO0.out.2.2.2, HLV.out, zR]
      have HRF : Aside0 (r = (stepL l0 o).2) := ⟨by show r = stepGo o (step0 l0 o) l0; rw [h0]; exact hg⟩
      clear hg h0 HG hj hlt
      have x0 : wr.cell? ⟨w.heap.size, 0, none⟩ = some (.int .i64 8) := (by rw [← HO0.out.1]; exact HI.out.D.x0); have x1 : wr.cell? ⟨w.heap.size, 1, none⟩ = some (.int .i64 key) := (by rw [← HO0.out.2.1]; exact HI.out.D.x1); have x2 : wr.cell? ⟨w.heap.size, 2, none⟩ = some (.int .i64 val) := (by rw [← HO0.out.2.2.1]; exact HI.out.D.x2); have x3 : wr.cell? ⟨w.heap.size, 3, none⟩ = some (.int .i64 hi) := (by rw [← HO0.out.2.2.2]; exact HI.out.D.x3); have b0 : wr.cell? ⟨w1.heap.size, 0, none⟩ = some (.bool r.f0) := (blk_cell HI.out.b8 0).trans rfl; have b1 : wr.cell? ⟨w1.heap.size, 1, none⟩ = some (.int .i64 r.f1) := (blk_cell HI.out.b8 1).trans rfl; have b2 : wr.cell? ⟨w1.heap.size, 2, none⟩ = some (.int .i64 r.f2) := (blk_cell HI.out.b8 2).trans rfl; have b3 : wr.cell? ⟨w1.heap.size, 3, none⟩ = some (.slice none 0 0) := (blk_cell HI.out.b8 3).trans rfl; have d0 : wr.cell? ⟨w.heap.size + 1, 0, none⟩ = some (.bool false) := (blk_cell HI.out.D.rt 0).trans rfl; have d1 : wr.cell? ⟨w.heap.size + 1, 1, none⟩ = some (.int .i64 0) := (blk_cell HI.out.D.rt 1).trans rfl; have d2 : wr.cell? ⟨w.heap.size + 1, 2, none⟩ = some (.int .i64 0) := (blk_cell HI.out.D.rt 2).trans rfl; have d3 : wr.cell? ⟨w.heap.size + 1, 3, none⟩ = some (.slice none 0 0) := (blk_cell HI.out.D.rt 3).trans rfl; have f0 := blk_frozen HI.out.D.rt 0; have f1 := blk_frozen HI.out.D.rt 1; have f2 := blk_frozen HI.out.D.rt 2; have f3 := blk_frozen HI.out.D.rt 3
      go_wp2_with (first
        | ((with_reducible refine gate_dst (N := 110) rfl ?_); refine Kd.R_lit k51 _ 51 ?hg (N := 110) ?hd (xs := ([] : List S51)) (inner := []) (ok := fun _ => True) (okp := fun _ => True) ?hr ?hp (fun _ hk => hk) trivial (Below.refl _ _) (Nat.le_refl _) (by simp) ?_; (case hd => rfl); (case hg => rfl); (case hr => first | (go_simp; done) | (go_simp; rfl)); (case hp => exact Reps.none _ _); intro vL wL hoL hbL _ _; have HIL := Aside0.mk (HI.out.below hbL); have HOB := Aside0.mk (Kd.R_base hoL); have HOL := Aside0.mk (Kd.R_lower hoL HI.out.HB.size); clear x0 x1 x2 x3 b0 b1 b2 b3 d0 d1 d2 d3 f0 f1 f2 f3; have x0 : wL.cell? ⟨w.heap.size, 0, none⟩ = some (.int .i64 8) := (by rw [← HO0.out.1]; exact HIL.out.D.x0); have x1 : wL.cell? ⟨w.heap.size, 1, none⟩ = some (.int .i64 key) := (by rw [← HO0.out.2.1]; exact HIL.out.D.x1); have x2 : wL.cell? ⟨w.heap.size, 2, none⟩ = some (.int .i64 val) := (by rw [← HO0.out.2.2.1]; exact HIL.out.D.x2); have x3 : wL.cell? ⟨w.heap.size, 3, none⟩ = some (.int .i64 hi) := (by rw [← HO0.out.2.2.2]; exact HIL.out.D.x3); have b0 : wL.cell? ⟨w1.heap.size, 0, none⟩ = some (.bool r.f0) := (blk_cell HIL.out.b8 0).trans rfl; have b1 : wL.cell? ⟨w1.heap.size, 1, none⟩ = some (.int .i64 r.f1) := (blk_cell HIL.out.b8 1).trans rfl; have b2 : wL.cell? ⟨w1.heap.size, 2, none⟩ = some (.int .i64 r.f2) := (blk_cell HIL.out.b8 2).trans rfl; have b3 : wL.cell? ⟨w1.heap.size, 3, none⟩ = some (.slice none 0 0) := (blk_cell HIL.out.b8 3).trans rfl; have d0 : wL.cell? ⟨w.heap.size + 1, 0, none⟩ = some (.bool false) := (blk_cell HIL.out.D.rt 0).trans rfl; have d1 : wL.cell? ⟨w.heap.size + 1, 1, none⟩ = some (.int .i64 0) := (blk_cell HIL.out.D.rt 1).trans rfl; have d2 : wL.cell? ⟨w.heap.size + 1, 2, none⟩ = some (.int .i64 0) := (blk_cell HIL.out.D.rt 2).trans rfl; have d3 : wL.cell? ⟨w.heap.size + 1, 3, none⟩ = some (.slice none 0 0) := (blk_cell HIL.out.D.rt 3).trans rfl; have f0 := blk_frozen HIL.out.D.rt 0; have f1 := blk_frozen HIL.out.D.rt 1; have f2 := blk_frozen HIL.out.D.rt 2; have f3 := blk_frozen HIL.out.D.rt 3; clear hoL hbL)
        | (at_builtin; refine Kd.R_append_rows k51 (w0 := w) w.heap.size rfl (.tmp 110) (.tmp 111) 22 51 (.agg #[(.int .i64 0), (.int .i64 0)]) 16 rfl Try.underlying22 info51 rfl (by decide) (by omega) vL ([] : List S51) l0 _ _ _ (fun _ => True) (fun _ => False) rfl rfl ?aO ?aR (fun _ _ h => h) (fun _ h => h.elim) ?aF ?aB ?aS ?aL ?_; (case aR => exact Kd.C_below hr0 HIL.out.HB); (case aB => exact HIL.out.HB); (case aF => exact (fun _ _ => trivial)); (case aO => exact HOL.out); (case aS => exact HIL.out.HB.size); (case aL => show (0 + l0.length) * 16 ≤ 140737488355328; omega); intro v12 wF hoF hbF hgF hatF; have HM := Aside0.mk hoF; have HIF := Aside0.mk (HIL.out.grown hgF (fun k hk => by have h1 := HOB.out k hk; have := HI.out.lt; omega) (Kd.R_nil _ _ _ _ _)); clear x0 x1 x2 x3 b0 b1 b2 b3 d0 d1 d2 d3 f0 f1 f2 f3; have x0 : wF.cell? ⟨w.heap.size, 0, none⟩ = some (.int .i64 8) := (by rw [← HO0.out.1]; exact HIF.out.D.x0); have x1 : wF.cell? ⟨w.heap.size, 1, none⟩ = some (.int .i64 key) := (by rw [← HO0.out.2.1]; exact HIF.out.D.x1); have x2 : wF.cell? ⟨w.heap.size, 2, none⟩ = some (.int .i64 val) := (by rw [← HO0.out.2.2.1]; exact HIF.out.D.x2); have x3 : wF.cell? ⟨w.heap.size, 3, none⟩ = some (.int .i64 hi) := (by rw [← HO0.out.2.2.2]; exact HIF.out.D.x3); have b0 : wF.cell? ⟨w1.heap.size, 0, none⟩ = some (.bool r.f0) := (blk_cell HIF.out.b8 0).trans rfl; have b1 : wF.cell? ⟨w1.heap.size, 1, none⟩ = some (.int .i64 r.f1) := (blk_cell HIF.out.b8 1).trans rfl; have b2 : wF.cell? ⟨w1.heap.size, 2, none⟩ = some (.int .i64 r.f2) := (blk_cell HIF.out.b8 2).trans rfl; have b3 : wF.cell? ⟨w1.heap.size, 3, none⟩ = some (.slice none 0 0) := (blk_cell HIF.out.b8 3).trans rfl; have d0 : wF.cell? ⟨w.heap.size + 1, 0, none⟩ = some (.bool false) := (blk_cell HIF.out.D.rt 0).trans rfl; have d1 : wF.cell? ⟨w.heap.size + 1, 1, none⟩ = some (.int .i64 0) := (blk_cell HIF.out.D.rt 1).trans rfl; have d2 : wF.cell? ⟨w.heap.size + 1, 2, none⟩ = some (.int .i64 0) := (blk_cell HIF.out.D.rt 2).trans rfl; have d3 : wF.cell? ⟨w.heap.size + 1, 3, none⟩ = some (.slice none 0 0) := (blk_cell HIF.out.D.rt 3).trans rfl; have f0 := blk_frozen HIF.out.D.rt 0; have f1 := blk_frozen HIF.out.D.rt 1; have f2 := blk_frozen HIF.out.D.rt 2; have f3 := blk_frozen HIF.out.D.rt 3; clear hoF hbF hgF hatF))
      go_region
      change Exit.then _ _ _ _ ((retW wF (w.heap.size + 1) r.f0 r.f1 r.f2 (.slice none 0 0)).drew)
      have hrt := ret_rt HIF.out.D.rt r.f0 r.f1 r.f2 (.slice none 0 0)
      have HE1 := Aside0.mk (Kd.R_drew (ret_R HIF.out.D.rt r.f0 r.f1 r.f2 (.slice none 0 0) HM.out))
      have HE2 := Aside0.mk (below_ret (b := r.f0) (x := r.f1) (y := r.f2) (v := .slice none 0 0) (g := w.heap.size + 1) HIF.out.HB (by omega))
      clear x0 x1 x2 x3 b0 b1 b2 b3 d0 d1 d2 d3 f0 f1 f2 f3
      go_wp2
      refine bodyPost_ret (results_list (rs := [.tmp 4, .cell 5 27]) rfl (by simp) (.tmp (.cell (w.heap.size + 1) 27 #[.bool r.f0, .int .i64 r.f1, .int .i64 r.f2, .slice none 0 0] (0, 0) _ rfl hrt Try.underlying27 rfl (by kernel_rfl) .nil))) rfl ?_
      refine ⟨v12, .slice none 0 0, by rw [← HRF.out]; rfl, ?_, ?_, HE2.out⟩
      · rw [show (stepL l0 o).1 = l0 from by unfold stepL; simp [HO0.out.1, HO0.out.2.1, HO0.out.2.2.1, HLV.out]]
        exact Kd.R_mono HE1.out (fun k _ he => by simp [Value.ownBlock] at he)
      · rw [← HRF.out, HP.out]
        exact Kd.R_nil _ _ _ _ _
end Go.Proofs.Ytanlnfcjdjamaaa.P
