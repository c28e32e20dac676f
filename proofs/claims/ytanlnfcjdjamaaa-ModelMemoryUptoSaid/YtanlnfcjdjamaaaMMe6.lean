/- P.modelMemory_holds, part 7 of 37: the contracts of the Go functions that the law calls, its own walk, and its plain law, for every input that the statement speaks of. -/
import Derived.WalkSpells
import Derived.RegionTactic
import Derived.ChangeAlike
import Derived.Outline
import Derived.Test.YtanlnfcjdjamaaaMMe2
set_option linter.unusedVariables false
set_option linter.unusedSimpArgs false
/- E1 -/
namespace Go.Proofs.Ytanlnfcjdjamaaa.P
open Go.RowKit Go.Proofs.YtanlnfcjdjamaaaW.PrintWords Go.Proofs.YtanlnfcjdjamaaaW.PrintLast Go.Proofs.YtanlnfcjdjamaaaW.PrintMore
theorem alloc_lt (W : World) (o : Obj) : W.heap.size < (W.alloc o).heap.size := (Array.getElem?_eq_some_iff.1 (blk_new W o)).1
def bsGo (l : List S51) (key : Int) : Nat → Nat → Nat → Nat
  | 0, i, _ => i
  | d + 1, i, j => if i < j then (if (J51 l (((i + j) / 2 : Nat) : Int)).f0 < key then bsGo l key d ((i + j) / 2 + 1) j else bsGo l key d i ((i + j) / 2)) else i
def bsB (l : List S51) (key : Int) (i : Nat) : Bool := decide (i < l.length) && decide ((J51 l (i : Int)).f0 = key)
def cmpI (a b : Int) : Int := if a < b then -1 else if b < a then 1 else 0
theorem byKey_val (a b c d : Int) : model_byKey.f a b c d = some (cmpI a c) := by
  unfold model_byKey.f cmp_Compare_int.f cmp_isNaN_int.f cmpI
  simp
  split
  · rfl
  · split <;> rfl
def model_find.f (l0 : List S51) (a1 : Int) : Option (Int × Bool) := if l0.length < 4611686018427387904 then some ((bsGo l0 a1 l0.length 0 l0.length : Nat), bsB l0 a1 (bsGo l0 a1 l0.length 0 l0.length)) else none
set_option maxHeartbeats 4000000 in
set_option maxRecDepth 100000 in
theorem bsf_calls (A0 : Option Addr) (c0 : Nat) (l0 : List S51) (key : Int) (w : World) (hr0 : Kd.C k51 w A0 l0.length l0) (hmx : l0.length < 4611686018427387904) (B : Nat) (hB : bsGo l0 key l0.length 0 l0.length = B) :
    Calls Try.prog 55 #[.slice A0 l0.length c0, .agg #[.int .i64 key, .int .i64 0], .func (.func 43) #[] #[]] w fun e w' => e = .returned (.tuple #[.int .i64 (B : Nat), .bool (bsB l0 key B)]) ∧ Below w.heap.size w w' := by
  have hu51 := Try.underlying51
  have HBB := Aside0.mk hB
  clear hB
  go_enter Try.func55, Try.ntmps55
  go_wp2
  go_loopw [9, 10] (fun v9 v10 W => ∃ (i j d : Nat), v9 = .int .i64 (i : Int) ∧ v10 = .int .i64 (j : Int) ∧ i ≤ j ∧ j ≤ l0.length ∧ j - i ≤ d ∧ Aside0 (bsGo l0 key d i j = B) ∧ Aside0 (Below w.heap.size w W) ∧ Aside0 (w.heap.size < W.heap.size ∧ W.cell? ⟨w.heap.size, 0, none⟩ = some (.int .i64 key) ∧ W.cell? ⟨w.heap.size, 1, none⟩ = some (.int .i64 0))) (fun v9 v10 _ => (intOf v10).toNat - (intOf v9).toNat)
  case atStart => exact ⟨0, l0.length, l0.length, rfl, rfl, Nat.zero_le _, Nat.le_refl _, by omega, HBB, ⟨below_alloc (Below.refl _ _) _⟩, ⟨alloc_lt _ _, (blk_cell (blk_new w (.cells #[.int .i64 key, .int .i64 0] 51)) 0).trans rfl, (blk_cell (blk_new w (.cells #[.int .i64 key, .int .i64 0] 51)) 1).trans rfl⟩⟩
  case round =>
    clear HBB
    obtain ⟨i, j, d, rfl, rfl, hij, hjn, hd, HG, HB, HX⟩ := hrel
    obtain ⟨hlw, b0, b1⟩ := HX.out
    clear HX
    have hr1 := Kd.C_below hr0 HB.out
    by_cases hlt : i < j
    · have hg := HG.out
      obtain ⟨d', rfl⟩ : ∃ d', d = d' + 1 := ⟨d - 1, by omega⟩
      rw [bsGo, if_pos hlt] at hg
      obtain ⟨h, hh⟩ : ∃ h, h = (i + j) / 2 := ⟨_, rfl⟩
      rw [← hh] at hg
      have hhi : ((i : Int) + (j : Int)) / 2 = (h : Int) := by omega
      have hb1 : i ≤ h := by omega
      have hb2 : h < j := by omega
      obtain ⟨ad, ea, y0, y1⟩ := at_T51 hr1 (h : Int) (by omega) (by omega)
      subst ea
      rw [Int.toNat_natCast] at y0 y1
      have c1 : (0 : Int) ≤ (h : Int) := by omega
      have c2 : (h : Int) < (l0.length : Int) := by omega
      have HH := Aside0.mk hh
      clear hh HG
      by_cases hk : (J51 l0 (h : Int)).f0 < key
      · rw [if_pos hk] at hg
        have HG := Aside0.mk hg
        have hcm : cmpI (J51 l0 (h : Int)).f0 key = -1 := by unfold cmpI; rw [if_pos hk]
        have HCM := Aside0.mk hcm
        clear hg hcm hk
        go_wp2
        go_region_held3 (fun W' => W'.cell? ⟨w.heap.size, 0, none⟩ = some (.int .i64 key) ∧ W'.cell? ⟨w.heap.size, 1, none⟩ = some (.int .i64 0) ∧ W'.cell? (ad.add (h * 2)) = some (.int .i64 (J51 l0 (h : Int)).f0) ∧ W'.cell? ⟨(ad.add (h * 2)).block, (ad.add (h * 2)).off + 1, none⟩ = some (.int .i64 (J51 l0 (h : Int)).f1)) (first | exact ⟨b0, b1, y0, y1⟩ | exact ⟨d0, d1, z0, z1⟩)
          (first | (go_at_call 43; refine (model_byKey.calls (J51 l0 (h : Int)).f0 (J51 l0 (h : Int)).f1 key 0 _ _ (byKey_val _ _ _ _)).mono ?_; rintro e w2 ⟨rfl, hb2⟩; rw [HCM.out]; have HB2 := Aside0.mk (below_step (below_drew1 HB.out) hb2); have d0 := pw_cell_below hb2 b0; have d1 := pw_cell_below hb2 b1; have z0 := pw_cell_below hb2 y0; have z1 := pw_cell_below hb2 y1; have HX2 : Aside0 (w.heap.size < w2.heap.size ∧ w2.cell? ⟨w.heap.size, 0, none⟩ = some (.int .i64 key) ∧ w2.cell? ⟨w.heap.size, 1, none⟩ = some (.int .i64 0)) := ⟨Nat.lt_of_lt_of_le hlw hb2.size, d0, d1⟩; clear hb2))
        go_wp2
        go_roundw
        case rel => exact ⟨h + 1, j, d', by go_num, rfl, by omega, hjn, by omega, HG, HB2, HX2⟩
        case measure => simp [intOf]; omega
      · rw [if_neg hk] at hg
        have HG := Aside0.mk hg
        have hcm : 0 ≤ cmpI (J51 l0 (h : Int)).f0 key := by unfold cmpI; rw [if_neg hk]; split <;> omega
        obtain ⟨q, hq⟩ : ∃ q, cmpI (J51 l0 (h : Int)).f0 key = q := ⟨_, rfl⟩
        rw [hq] at hcm
        have HCM := Aside0.mk hq
        have hcd : decide (q < 0) = false := decide_eq_false (by omega)
        clear hg hcm hk hq
        go_wp2
        go_region_held3 (fun W' => W'.cell? ⟨w.heap.size, 0, none⟩ = some (.int .i64 key) ∧ W'.cell? ⟨w.heap.size, 1, none⟩ = some (.int .i64 0) ∧ W'.cell? (ad.add (h * 2)) = some (.int .i64 (J51 l0 (h : Int)).f0) ∧ W'.cell? ⟨(ad.add (h * 2)).block, (ad.add (h * 2)).off + 1, none⟩ = some (.int .i64 (J51 l0 (h : Int)).f1)) (first | exact ⟨b0, b1, y0, y1⟩ | exact ⟨d0, d1, z0, z1⟩)
          (first | (go_at_call 43; refine (model_byKey.calls (J51 l0 (h : Int)).f0 (J51 l0 (h : Int)).f1 key 0 _ _ (byKey_val _ _ _ _)).mono ?_; rintro e w2 ⟨rfl, hb2⟩; rw [HCM.out]; have HB2 := Aside0.mk (below_step (below_drew1 HB.out) hb2); have d0 := pw_cell_below hb2 b0; have d1 := pw_cell_below hb2 b1; have z0 := pw_cell_below hb2 y0; have z1 := pw_cell_below hb2 y1; have HX2 : Aside0 (w.heap.size < w2.heap.size ∧ w2.cell? ⟨w.heap.size, 0, none⟩ = some (.int .i64 key) ∧ w2.cell? ⟨w.heap.size, 1, none⟩ = some (.int .i64 0)) := ⟨Nat.lt_of_lt_of_le hlw hb2.size, d0, d1⟩; clear hb2))
        go_wp2
        go_roundw
        case rel => exact ⟨i, h, d', rfl, rfl, hb1, by omega, by omega, HG, HB2, HX2⟩
        case measure => simp [intOf]; omega
    · obtain rfl : i = j := by omega
      have hg : i = B := by have := HG.out; cases d <;> simp [bsGo] at this <;> exact this
      subst hg
      clear HG
      by_cases hn : i < l0.length
      · obtain ⟨ad, ea, y0, y1⟩ := at_T51 hr1 (i : Int) (by omega) (by omega)
        subst ea
        rw [Int.toNat_natCast] at y0 y1
        have c1 : (0 : Int) ≤ (i : Int) := by omega
        have c2 : (i : Int) < (l0.length : Int) := by omega
        obtain ⟨q, hq⟩ : ∃ q, cmpI (J51 l0 (i : Int)).f0 key = q := ⟨_, rfl⟩
        have hbq : bsB l0 key i = (q == 0) := by
          unfold bsB
          rw [decide_eq_true hn, Bool.true_and, ← hq]
          unfold cmpI
          by_cases h1 : (J51 l0 (i : Int)).f0 < key
          · rw [if_pos h1, decide_eq_false (by omega)]; rfl
          · rw [if_neg h1]
            by_cases h2 : key < (J51 l0 (i : Int)).f0
            · rw [if_pos h2, decide_eq_false (by omega)]; rfl
            · rw [if_neg h2, decide_eq_true (by omega)]; rfl
        have HCM := Aside0.mk hq
        have HBQ := Aside0.mk hbq
        clear hq hbq
        go_wp2
        go_region_held3 (fun W' => W'.cell? ⟨w.heap.size, 0, none⟩ = some (.int .i64 key) ∧ W'.cell? ⟨w.heap.size, 1, none⟩ = some (.int .i64 0) ∧ W'.cell? (ad.add (i * 2)) = some (.int .i64 (J51 l0 (i : Int)).f0) ∧ W'.cell? ⟨(ad.add (i * 2)).block, (ad.add (i * 2)).off + 1, none⟩ = some (.int .i64 (J51 l0 (i : Int)).f1)) (first | exact ⟨b0, b1, y0, y1⟩ | exact ⟨d0, d1, z0, z1⟩)
          (first | (go_at_call 43; refine (model_byKey.calls (J51 l0 (i : Int)).f0 (J51 l0 (i : Int)).f1 key 0 _ _ (byKey_val _ _ _ _)).mono ?_; rintro e w2 ⟨rfl, hb2⟩; rw [HCM.out]; have HB2 := Aside0.mk (below_step (below_drew1 HB.out) hb2); have d0 := pw_cell_below hb2 b0; have d1 := pw_cell_below hb2 b1; have z0 := pw_cell_below hb2 y0; have z1 := pw_cell_below hb2 y1; have HX2 : Aside0 (w.heap.size < w2.heap.size ∧ w2.cell? ⟨w.heap.size, 0, none⟩ = some (.int .i64 key) ∧ w2.cell? ⟨w.heap.size, 1, none⟩ = some (.int .i64 0)) := ⟨Nat.lt_of_lt_of_le hlw hb2.size, d0, d1⟩; clear hb2))
        go_wp2
        go_ret2
        exact ⟨by rw [HBQ.out]; rfl, HB2.out⟩
      · have hbq : bsB l0 key i = false := by unfold bsB; rw [decide_eq_false hn]; rfl
        have HBQ := Aside0.mk hbq
        clear hbq
        have c2 : decide ((i : Int) < (l0.length : Int)) = false := decide_eq_false (by omega)
        go_wp2
        go_region
        go_wp2
        go_ret2
        exact ⟨by rw [HBQ.out]; rfl, below_drew1 HB.out⟩
set_option maxHeartbeats 4000000 in
set_option maxRecDepth 100000 in
theorem model_find.calls (A0 : Option Addr) (c0 : Nat) (l0 : List (S51)) (a1 : Int) (r1 : Int) (r2 : Bool) (w : World) (hr0 : Kd.C k51 w A0 l0.length l0) (hc0 : l0.length ≤ c0) (h : model_find.f l0 a1 = some (r1, r2)) :
    Calls Try.prog 47 #[.slice A0 l0.length c0, .int .i64 a1] w fun e w' => e = .returned (.tuple #[.int .i64 r1, .bool r2]) ∧ Below w.heap.size w w' := by
  have hu51 := Try.underlying51
  unfold model_find.f at h
  by_cases hl : l0.length < 4611686018427387904
  rotate_left
  · rw [if_neg hl] at h; simp at h
  rw [if_pos hl] at h
  cases h
  have HS := Aside0.mk (bsf_calls A0 c0 l0 a1 w hr0 hl _ rfl)
  generalize bsGo l0 a1 l0.length 0 l0.length = B at HS
  generalize bsB l0 a1 B = b at HS
  go_enter Try.func47, Try.ntmps47
  go_wp2_with (go_at_call 55; refine HS.out.mono ?_; rintro e w2 ⟨rfl, hb2⟩; have HB2 := Aside0.mk hb2; clear hb2)
  go_ret2
  exact ⟨rfl, HB2.out⟩
end Go.Proofs.Ytanlnfcjdjamaaa.P
