/- P.eventCalls_holds, part 27 of 31: the contracts of the Go functions that the law calls, its own walk, and its plain law, for every input that the statement speaks of. -/
import Derived.Test.YtagdkmcgepidoaaMCa25
import Derived.Deep.RegionHeld3
import Derived.Test.YtagdkmcgepidoaaMCa13
import Derived.Test.YtagdkmcgepidoaaMCa2
import Derived.Test.YtagdkmcgepidoaaMCa3
import Derived.Test.YtagdkmcgepidoaaMCa4
set_option linter.unusedVariables false
set_option linter.unusedSimpArgs false
/- E16 -/
namespace Go.Proofs.Ytagdkmcgepidoaa.P
open Go.RowKit Go.Proofs.YtagdkmcgepidoaaW.PrintWords Go.Proofs.YtagdkmcgepidoaaW.PrintLast Go.Proofs.YtagdkmcgepidoaaW.PrintMore
def unc (x : S76) : S38 := ⟨x.f0, x.f1, x.f2, x.f3, x.f4⟩
def cmpGo (cs back : List S76) : Nat → Nat → Option Bool
  | 0, _ => some true
  | d + 1, j => if j < back.length then (if (J76 back (j : Int)).f3 = (J76 cs (j : Int)).f3 then (if (J76 back (j : Int)).f4 = (J76 cs (j : Int)).f4 then cmpGo cs back d (j + 1) else some false) else some false) else none
def refEv (k : Nat) (l0 : List S76) : Option (List S67) → Option (List S67 × Int)
  | none => some ([], 3)
  | some o => (larchref05_Check.f k o).bind fun e => if e = 0 then ((larchref05_calls.f k o).bind fun back => (cmpGo l0 back l0.length 0).bind fun b => if b = true then some (o, 0) else some ([], 3)) else some ([], e)
def larchref05_Events.f (k : Nat) (l0 : List S76) : Option (List S67 × Int) := if l0.length > 100000 then some ([], 2) else if evNum (l0.map unc) > 100000 then some ([], 3) else if ∀ c ∈ l0, c.f2.f3.length ≤ 1048576 then refEv k l0 (evGo (l0.map unc) (evNum (l0.map unc)) l0.length 0 (-1) (List.replicate (evNum (l0.map unc)) false) (List.replicate (evNum (l0.map unc)) z67)) else none
def evT18 : Bool × List (List Nat × List Nat) := (true, [([], []), ([0], [0]), ([1], [1]), ([2], [2]), ([3], [3]), ([4, 3], [3, 4]), ([3], [3]), ([5, 6, 3], [3, 5, 6]), ([3, 7], [3, 7]), ([8, 3], [8]), ([9], [9]), ([9], [9]), ([11, 9], [9, 11]), ([10, 12, 9], [9, 10, 12]), ([13, 9], [9, 13]), ([9, 14], [9, 14]), ([15, 9], [15]), ([16], [16]), ([17, 16], [16, 17]), ([18, 16, 16], [16, 18]), ([19], [19]), ([20, 19], [19, 20]), ([19], [19]), ([19], [19]), ([23, 19], [19, 23]), ([22, 24, 19], [19, 22, 24]), ([25, 19], [19, 25]), ([26, 19], [19, 26]), ([21, 27, 19], [19, 21, 27]), ([19, 28, 16], [16, 19, 28]), ([16, 29], [16, 29]), ([30, 19], [30]), ([31], [31]), ([32, 31], [31, 32]), ([33, 31], [31, 33]), ([34, 31, 31], [31, 34]), ([35], [35]), ([36, 35], [35, 36]), ([35], [35]), ([37, 38, 35, 35], [35, 37, 38]), ([39, 35], [35, 39]), ([35, 40, 31], [31, 35, 40]), ([31, 41], [31, 41])])
def evB18 : List Nat := [0, 1, 3, 7, 15, 31, 15, 127, 255, 511, 1023, 1023, 3071, 8191, 16383, 32767, 65535, 131071, 262143, 524287, 1048575, 2097151, 1048575, 1048575, 9437183, 30408703, 63963135, 131071999, 268435455, 536870911, 1073741823, 2147483647, 4294967295, 8589934591, 17179869183, 34359738367, 68719476735, 137438953471, 68719476735, 549755813887, 1099511627775, 2199023255551, 4398046511103]
theorem evTab18 : rtab .any (opsOf Try.f40 18) = evT18 := by kernel_rfl
theorem evBits18 : waitsOk evT18.2 evB18 = true := by kernel_rfl
def evT26 : Bool × List (List Nat × List Nat) := (true, [([], []), ([], []), ([1], [1]), ([], []), ([3], [3]), ([], []), ([5], [5]), ([], []), ([7], [7]), ([8], [8]), ([4, 6, 9], [4, 6, 9]), ([0, 2, 0, 1, 2, 3, 4, 5, 6, 7, 8, 9, 10], [0, 2]), ([11, 10, 9, 0, 1, 2, 3, 4, 5, 6, 7, 8, 9, 10], [10, 11])])
def evB26 : List Nat := [0, 0, 2, 0, 8, 0, 32, 0, 128, 384, 1016, 2047, 4095]
theorem evTab26 : rtab .any (opsOf Try.f40 26) = evT26 := by kernel_rfl
theorem evBits26 : waitsOk evT26.2 evB26 = true := by kernel_rfl
structure Box76 (B : Nat) (y : S76) (A8 : Option Addr) (c8 : Nat) (W : World) : Prop where
  b0 : W.cell? ⟨B, 0, none⟩ = some (.int .i64 y.f0)
  b1 : W.cell? ⟨B, 1, none⟩ = some (.int .i64 y.f1.f0)
  b2 : W.cell? ⟨B, 2, none⟩ = some (.int .i64 y.f1.f1)
  b3 : W.cell? ⟨B, 3, none⟩ = some (.int .i64 y.f1.f2)
  b4 : W.cell? ⟨B, 4, none⟩ = some (.int .i64 y.f1.f3)
  b5 : W.cell? ⟨B, 5, none⟩ = some (.bool y.f2.f0)
  b6 : W.cell? ⟨B, 6, none⟩ = some (.int .i64 y.f2.f1)
  b7 : W.cell? ⟨B, 7, none⟩ = some (.int .i64 y.f2.f2)
  b8 : W.cell? ⟨B, 8, none⟩ = some (.slice A8 y.f2.f3.length c8)
  b9 : W.cell? ⟨B, 9, none⟩ = some (.int .i64 y.f3)
  b10 : W.cell? ⟨B, 10, none⟩ = some (.int .i64 y.f4)
theorem Box76.new (wr : World) (y : S76) (A8 : Option Addr) (c8 : Nat) : Box76 wr.heap.size y A8 c8 (wr.alloc (.cells #[.int .i64 y.f0, .int .i64 y.f1.f0, .int .i64 y.f1.f1, .int .i64 y.f1.f2, .int .i64 y.f1.f3, .bool y.f2.f0, .int .i64 y.f2.f1, .int .i64 y.f2.f2, .slice A8 y.f2.f3.length c8, .int .i64 y.f3, .int .i64 y.f4] 76)) := by
  have h := fun j => blk_cell (blk_new wr (.cells #[.int .i64 y.f0, .int .i64 y.f1.f0, .int .i64 y.f1.f1, .int .i64 y.f1.f2, .int .i64 y.f1.f3, .bool y.f2.f0, .int .i64 y.f2.f1, .int .i64 y.f2.f2, .slice A8 y.f2.f3.length c8, .int .i64 y.f3, .int .i64 y.f4] 76)) j
  exact ⟨(h 0).trans rfl, (h 1).trans rfl, (h 2).trans rfl, (h 3).trans rfl, (h 4).trans rfl, (h 5).trans rfl, (h 6).trans rfl, (h 7).trans rfl, (h 8).trans rfl, (h 9).trans rfl, (h 10).trans rfl⟩
theorem Box76.heap {B : Nat} {y : S76} {A8 : Option Addr} {c8 : Nat} {W W' : World} (h : Box76 B y A8 c8 W) (e : W'.heap[B]? = W.heap[B]?) : Box76 B y A8 c8 W' :=
  ⟨cell_heap e h.b0, cell_heap e h.b1, cell_heap e h.b2, cell_heap e h.b3, cell_heap e h.b4, cell_heap e h.b5, cell_heap e h.b6, cell_heap e h.b7, cell_heap e h.b8, cell_heap e h.b9, cell_heap e h.b10⟩
theorem Box76.lt {B : Nat} {y : S76} {A8 : Option Addr} {c8 : Nat} {W : World} (h : Box76 B y A8 c8 W) : B < W.heap.size := q_lt h.b0 rfl
theorem Box76.below {B : Nat} {y : S76} {A8 : Option Addr} {c8 : Nat} {W W' : World} (h : Box76 B y A8 c8 W) (hb : Below W.heap.size W W') : Box76 B y A8 c8 W' := h.heap (hb.block B h.lt)
structure RI (w : World) (n s g cs cg : Nat) (set : List Bool) (out : List S67) (W : World) : Prop where
  HS : Kd.R Kd.bool 4 W w.heap.size (fun _ => True) (.slice (some ⟨s, 0, none⟩) n cs) set
  HO : Kd.S k67 67 W w.heap.size (fun _ => True) (.slice (some ⟨g, 0, none⟩) n cg) out
  HB : Below w.heap.size w W
theorem RI.below {w : World} {n s g cs cg : Nat} {set : List Bool} {out : List S67} {W W' : World} (h : RI w n s g cs cg set out W) (hb : Below W.heap.size W W') : RI w n s g cs cg set out W' :=
  ⟨Kd.R_below h.HS hb, Kd.S_below h.HO hb, below_step h.HB hb⟩
theorem RI.set1 {w : World} {n s g cs cg : Nat} {set : List Bool} {out : List S67} {W : World} (h : RI w n s g cs cg set out W) (p : Int) : RI w n s g cs cg (set.set p.toNat true) out (W.setCell ⟨s, p.toNat, none⟩ (.bool true)) := by
  obtain ⟨ys, hys⟩ := Kd.R_typed h.HS s (by simp [Value.ownBlock])
  have hsb : w.heap.size ≤ s := Kd.R_base h.HS s (by simp [Value.ownBlock])
  exact ⟨Kd.R_putn h.HS p true, Kd.S_set h.HO hys (by decide) p.toNat (.bool true), h.HB.setCell hsb (.bool true) (p := ⟨s, p.toNat, none⟩)⟩
theorem RI.put {w : World} {n s g cs cg : Nat} {set : List Bool} {out : List S67} {W : World} (h : RI w n s g cs cg set out W) (p : Int) (q0 : 0 ≤ p) (q1 : p < n) (x : S67) {A9 : Option Addr} {c9 N : Nat} (hv : k70.R 70 W N (fun _ => True) (.slice A9 x.f3.f3.length c9) x.f3.f3) (hN : w.heap.size ≤ N) (hO : Kd.S k67 67 W w.heap.size (fun k => k < N) (.slice (some ⟨g, 0, none⟩) n cg) out) :
    RI w n s g cs cg set (out.set p.toNat x) (W.setCells g (p.toNat * 10) (c67 x A9 c9)) ∧ ∀ k, k < W.heap.size → k ≠ g → (W.setCells g (p.toNat * 10) (c67 x A9 c9)).heap[k]? = W.heap[k]? := by
  obtain ⟨-, -, HO3, hg3⟩ := S_put67 x hO hv hN p q0 q1
  have hgb : w.heap.size ≤ g := Kd.S_base h.HO g (by simp [Value.ownBlock])
  exact ⟨⟨Kd.R_over' h.HS (Kd.S_typed h.HO) (by decide) hg3, HO3, h.HB.grown hg3 h.HB.size (fun k hk => by injection hk with hk; omega)⟩, fun k hk hne => hg3.block k hk (fun he => hne (by injection he))⟩
theorem RI.ne {w : World} {n s g cs cg : Nat} {set : List Bool} {out : List S67} {W : World} (h : RI w n s g cs cg set out W) : s ≠ g := by
  obtain ⟨ys, hys⟩ := Kd.R_typed h.HS s (by simp [Value.ownBlock])
  obtain ⟨yg, hyg⟩ := Kd.S_typed h.HO g (by simp [Value.ownBlock])
  rintro rfl
  rw [hys] at hyg
  injection hyg with hyg
  injection hyg with _ hyg
  cases hyg
theorem unc_rd (l0 : List S76) (i : Int) (hi : 0 ≤ i ∧ i < l0.length) : J38 (l0.map unc) i = unc (J76 l0 i) := by
  unfold J38 J76
  rw [List.getD_eq_getElem?_getD, List.getElem?_map, List.getD_eq_getElem?_getD, List.getElem?_eq_getElem (by omega)]
  rfl
set_option maxHeartbeats 8000000 in
set_option maxRecDepth 100000 in
theorem larchref05_Events.calls (k : Nat) (A0 : Option Addr) (c0 : Nat) (l0 : List (S76)) (r1 : List (S67)) (r2 : Int) (w : World) (hr0 : Kd.C k76 w A0 l0.length l0) (hc0 : l0.length ≤ c0) (h : larchref05_Events.f k l0 = some (r1, r2)) :
    Calls Try.prog 40 #[.slice A0 l0.length c0] w fun e w' => ∃ v0_ : Value, e = .returned (.tuple #[v0_, .int .i64 r2]) ∧ Kd.S k67 67 w' w.heap.size (fun _ => True) v0_ r1 ∧ Below w.heap.size w w' := by
  have hu67 := Try.underlying67
  have hu76 := Try.underlying76
  have hu36 := Try.underlying36
  have hu33 := Try.underlying33
  have hmx : l0.length ≤ 9223372036854775807 := hr0.2.1
  unfold larchref05_Events.f at h
  by_cases hb : l0.length > 100000
  · rw [if_pos hb] at h
    cases h
    have hb1 : decide ((100000 : Int) < (l0.length : Int)) = true := decide_eq_true (by omega)
    go_enter Try.func40, Try.ntmps40
    go_wp2
    go_ret2
    exact ⟨_, rfl, Kd.S_nil _ _ _ _ _, Below.refl _ _⟩
  rw [if_neg hb] at h
  have hb1 : decide ((100000 : Int) < (l0.length : Int)) = false := decide_eq_false (by omega)
  have HR := Aside0.mk h
  clear h
  go_enter Try.func40, Try.ntmps40
  go_wp2
  go_loopw [4, 5] (fun v4 v5 W => ∃ (j : Nat), v4 = .int .i64 ((j + twN ((l0.map unc).take j) : Nat) : Int) ∧ v5 = .int .i64 (j : Int) ∧ j ≤ l0.length ∧ Aside0 (Below w.heap.size w W)) (fun _ v5 _ => l0.length - (intOf v5).toNat)
  case atStart => exact ⟨0, by simp [twN], rfl, Nat.zero_le _, ⟨Below.refl _ _⟩⟩
  case round =>
    obtain ⟨j, rfl, rfl, hj, HB⟩ := hrel
    have hle := tw_le ((l0.map unc).take j)
    rw [List.length_take, List.length_map] at hle
    by_cases hlt : j < l0.length
    · obtain ⟨ad2, A8, c8, ea, y0, y1, y2, y3, y4, y5, y6, y7, y8, y9, y10, -, -⟩ := at_T76 (Kd.C_below hr0 HB.out) (j : Int) (by omega) (by omega)
      cases ea
      have htw := tw_take (l0.map unc) j (by rw [List.length_map]; omega)
      rw [unc_rd l0 _ ⟨by omega, by omega⟩] at htw
      obtain ⟨y, hy⟩ : ∃ y, y = J76 l0 (j : Int) := ⟨_, rfl⟩
      rw [← hy] at htw y0 y1 y2 y3 y4 y5 y6 y7 y8 y9 y10
      simp only [Int.toNat_natCast] at y0 y1 y2 y3 y4 y5 y6 y7 y8 y9 y10
      change twN ((l0.map unc).take (j + 1)) = twN ((l0.map unc).take j) + (if y.f4 = -1 then 0 else 1) at htw
      have HTW := Aside0.mk htw
      generalize twN ((l0.map unc).take j) = m at hle HTW ⊢
      clear hy htw
      by_cases h4 : y.f4 = -1
      · rw [if_pos h4] at HTW
        have h4' : (y.f4 != -1) = false := by simpa using h4
        clear h4
        go_wp2
        go_roundw
        case rel => exact ⟨j + 1, by rw [HTW.out]; go_num, by go_num, by omega, HB⟩
        case measure => simp [intOf]; omega
      · rw [if_neg h4] at HTW
        have h4' : (y.f4 != -1) = true := by simpa using h4
        clear h4
        go_wp2
        go_roundw
        case rel => exact ⟨j + 1, by rw [HTW.out]; go_num, by go_num, by omega, HB⟩
        case measure => simp [intOf]; omega
    · obtain rfl : j = l0.length := by omega
      have hn0 : l0.length + twN ((l0.map unc).take l0.length) = evNum (l0.map unc) := by
        rw [List.take_of_length_le (by rw [List.length_map]; omega)]
        unfold evNum
        rw [List.length_map]
      rw [hn0]
      have hR := HR.out
      clear HR
      obtain ⟨n, hn⟩ : ∃ n, n = evNum (l0.map unc) := ⟨_, rfl⟩
      rw [← hn] at hR ⊢
      have hnle : n ≤ 200000 := by have := tw_le (l0.map unc); rw [hn]; unfold evNum; rw [List.length_map] at this ⊢; omega
      have HNN := Aside0.mk hn
      clear hn hn0 hle
      by_cases hbig : n > 100000
      · rw [if_pos hbig] at hR
        cases hR
        have hd : decide ((100000 : Int) < (n : Int)) = true := decide_eq_true (by omega)
        go_wp2
        go_ret2
        exact ⟨_, rfl, Kd.S_nil _ _ _ _ _, HB.out⟩
      rw [if_neg hbig] at hR
      have hd : decide ((100000 : Int) < (n : Int)) = false := decide_eq_false (by omega)
      by_cases hps : ∀ c ∈ l0, c.f2.f3.length ≤ 1048576
      rotate_left
      · rw [if_neg hps] at hR; cases hR
      rw [if_pos hps] at hR
      have HPS := Aside0.mk hps
      have HG0 := Aside0.mk hR
      clear hR hps
      go_wp2_with (first
        | ((with_reducible refine gate_dst (N := 35) rfl ?_); refine Kd.S_make k67 (w0 := w) w.heap.size 67 rfl (N := 35) rfl 22 _ _ rfl (n : Int) rfl rfl Try.underlying22 (.agg #[(.int .i64 0), (.bool false), (.int .i64 0), (.int .i64 0), (.int .i64 0), (.int .i64 0), (.bool false), (.int .i64 0), (.int .i64 0), (.slice none 0 0)]) 96 info67 rfl (by decide) (by omega) z67 (ok := fun _ => True) (okp := fun _ => False) (k67_mkM _ _ _ z67 (Kd.R_nil _ _ _ _ _)) (fun _ hk => hk.elim) trivial (by omega) (by omega) HB.out HB.out.size ?_; intro v7 w7 ho7 hb7 hg7 hat7; obtain ⟨g, hgo, hgl⟩ := hat7; obtain ⟨i7, hi7⟩ := Kd.S_own ho7; obtain ⟨cg, rfl⟩ := own_form hi7 hgo; rw [Int.toNat_natCast, List.length_replicate] at ho7; rw [Int.toNat_natCast, List.length_replicate]; have HO7 := Aside0.mk ho7; have HB7 := Aside0.mk hb7; clear ho7 hb7 hg7 hi7 hgo)
        | ((with_reducible refine gate_dst (N := 37) rfl ?_); refine Kd.R_make Kd.bool (w0 := w) w.heap.size 4 rfl (N := 37) rfl 31 _ _ rfl (n : Int) rfl rfl Try.underlying31 (.bool false) 1 info4 rfl (by decide) (by omega) false (ok := fun _ => True) (okp := fun _ => False) rfl (fun _ hk => hk.elim) trivial (by omega) (by omega) HB7.out HB7.out.size ?_; intro v8 w8 ho8 hb8 hg8 hat8; obtain ⟨s, hso, hsl⟩ := hat8; obtain ⟨i8, hi8⟩ := Kd.R_own ho8; obtain ⟨cs, rfl⟩ := own_form hi8 hso; rw [Int.toNat_natCast, List.length_replicate] at ho8; rw [Int.toNat_natCast, List.length_replicate]; have HS8 := Aside0.mk ho8; have HB8 := Aside0.mk hb8; have HO8 := Aside0.mk (Kd.S_grown HO7.out hg8 (fun _ _ => by simp)); clear ho8 hb8 hg8 hi8 hso))
      have hI : RI w n s g cs cg (List.replicate n false) (List.replicate n z67) w8 := ⟨HS8.out, HO8.out, HB8.out⟩
      have hsg := hI.ne
      clear HS8 HO8 HB8 HO7 HB7 HB hsl hgl w7
      go_loopw [8] (fun v8 W => ∃ (j : Nat) (fr : Int) (set : List Bool) (out : List S67), v8 = .int .i64 (j : Int) ∧ j ≤ l0.length ∧ Aside0 (refEv k l0 (evGo (l0.map unc) n (l0.length - j) j fr set out) = some (r1, r2)) ∧ Aside0 (fr = (if j = 0 then -1 else (J76 l0 ((j - 1 : Nat) : Int)).f3) ∧ -1 ≤ fr) ∧ RI w n s g cs cg set out W) (fun v8 _ => l0.length - (intOf v8).toNat)
      case atStart => exact ⟨0, -1, _, _, rfl, Nat.zero_le _, HG0, ⟨rfl, by omega⟩, hI⟩
      case round =>
        clear HG0 hI
        obtain ⟨j, fr, set, out, rfl, hj, HG, HF, hI⟩ := hrel
        by_cases hlt : j < l0.length
        · have hg := HG.out
          rw [show l0.length - j = (l0.length - (j + 1)) + 1 by omega] at hg
          simp only [evGo] at hg
          rw [unc_rd l0 _ ⟨by omega, by omega⟩] at hg
          obtain ⟨y, hy⟩ : ∃ y, y = J76 l0 (j : Int) := ⟨_, rfl⟩
          rw [← hy] at hg
          obtain ⟨ad2, A8, c8, ea, y0, y1, y2, y3, y4, y5, y6, y7, y8, y9, y10, hc8, hr8⟩ := at_T76 hr0 (j : Int) (by omega) (by omega)
          cases ea
          rw [← hy] at y0 y1 y2 y3 y4 y5 y6 y7 y8 y9 y10 hc8 hr8
          simp only [Int.toNat_natCast] at y0 y1 y2 y3 y4 y5 y6 y7 y8 y9 y10
          replace y0 := pw_cell_below hI.HB y0
          replace y1 := pw_cell_below hI.HB y1
          replace y2 := pw_cell_below hI.HB y2
          replace y3 := pw_cell_below hI.HB y3
          replace y4 := pw_cell_below hI.HB y4
          replace y5 := pw_cell_below hI.HB y5
          replace y6 := pw_cell_below hI.HB y6
          replace y7 := pw_cell_below hI.HB y7
          replace y8 := pw_cell_below hI.HB y8
          replace y9 := pw_cell_below hI.HB y9
          replace y10 := pw_cell_below hI.HB y10
          have hin : y ∈ l0 := by
            rw [hy]
            unfold J76
            rw [Int.toNat_natCast, List.getD_eq_getElem?_getD, List.getElem?_eq_getElem (by omega)]
            exact List.getElem_mem _
          have HPX := Aside0.mk (HPS.out y hin)
          have HY := Aside0.mk hy
          clear hin HG hy
          have hBs : wr.heap.size ≠ s := by have := Kd.R_lt hI.HS s (by simp [Value.ownBlock]); omega
          have hBg : wr.heap.size ≠ g := by have := Kd.S_lt hI.HO g (by simp [Value.ownBlock]); omega
          have HIb := Aside0.mk (hI.below (below_alloc (Below.refl wr.heap.size wr) (.cells #[.int .i64 y.f0, .int .i64 y.f1.f0, .int .i64 y.f1.f1, .int .i64 y.f1.f2, .int .i64 y.f1.f3, .bool y.f2.f0, .int .i64 y.f2.f1, .int .i64 y.f2.f2, .slice A8 y.f2.f3.length c8, .int .i64 y.f3, .int .i64 y.f4] 76)))
          have hX := Box76.new wr y A8 c8
          have HBX := Aside0.mk hX
          clear hX
          have HG := Aside0.mk hg
          clear hg
          go_upto_region 18 with (fail)
          (try simp only [Act.put, List.setIfInBounds_toArray, List.set_cons_zero, List.set_cons_succ])
          generalize wr.alloc (.cells #[.int .i64 y.f0, .int .i64 y.f1.f0, .int .i64 y.f1.f1, .int .i64 y.f1.f2, .int .i64 y.f1.f3, .bool y.f2.f0, .int .i64 y.f2.f1, .int .i64 y.f2.f2, .slice A8 y.f2.f3.length c8, .int .i64 y.f3, .int .i64 y.f4] 76) = Wb at HIb HBX ⊢
          generalize wr.heap.size = B at hBs hBg HBX ⊢
          clear y0 y1 y2 y3 y4 y5 y6 y7 y8 y9 y10 hI
          have hbad : (y.f3 ≤ fr ∨ okAt n set y.f3 = false ∨ (y.f4 = -1 ∧ bareB y.f2 = false)) → r1 = [] ∧ r2 = 3 := by
            intro hb
            have hg := HG.out
            have fin : refEv k l0 none = some (r1, r2) → r1 = [] ∧ r2 = 3 := fun h => by
              cases h
              exact ⟨rfl, rfl⟩
            by_cases h1 : (unc y).f3 ≤ fr
            · rw [if_pos h1] at hg
              exact fin hg
            rw [if_neg h1] at hg
            by_cases h2 : okAt n set (unc y).f3 = true
            rotate_left
            · rw [if_neg h2] at hg
              exact fin hg
            rw [if_pos h2] at hg
            rcases hb with hb | hb | ⟨hb, hb2⟩
            · exact absurd hb h1
            · change okAt n set y.f3 = true at h2
              rw [h2] at hb
              cases hb
            · rw [if_pos (show (unc y).f4 = -1 from hb), if_neg (show ¬ bareB (unc y).f2 = true by show ¬ bareB y.f2 = true; rw [hb2]; decide)] at hg
              exact fin hg
          have HBAD := Aside0.mk hbad
          clear hbad
          go_cut [90] (fun v90 wc => ∃ b : Bool, v90 = .bool b ∧ Aside0 (b = true → r1 = [] ∧ r2 = 3) ∧ Aside0 (b = false → (fr < y.f3 ∧ okAt n set y.f3 = true) ∧ (y.f4 = -1 → bareB y.f2 = true)) ∧ Aside0 (Below Wb.heap.size Wb wc))
          case first =>
            obtain ⟨q0, q1, q2, q3, q4, q5, q6, q7, q8, q9, q10⟩ := HBX.out
            by_cases h0 : y.f3 < 0
            · have g0 : decide (y.f3 < 0) = true := decide_eq_true h0
              have HX := Aside0.mk (HBAD.out (.inl (by have := HF.out.2; omega)))
              clear h0
              go_region
              (try go_wp2)
              go_meet
              case rel => exact ⟨true, rfl, ⟨fun _ => HX.out⟩, ⟨fun h => by cases h⟩, ⟨below_drew1 (Below.refl _ _)⟩⟩
            have g0 : decide (y.f3 < 0) = false := decide_eq_false h0
            by_cases h1 : (n : Int) ≤ y.f3
            · have g1 : decide ((n : Int) ≤ y.f3) = true := decide_eq_true h1
              have HX := Aside0.mk (HBAD.out (.inr (.inl (by unfold okAt; rw [decide_eq_false (by omega : ¬ y.f3 < (n : Int))]; simp))))
              clear h0 h1
              go_region
              (try go_wp2)
              go_meet
              case rel => exact ⟨true, rfl, ⟨fun _ => HX.out⟩, ⟨fun h => by cases h⟩, ⟨below_drew1 (Below.refl _ _)⟩⟩
            have g1 : decide ((n : Int) ≤ y.f3) = false := decide_eq_false h1
            have k0 : 0 ≤ y.f3 := by omega
            have k1 : y.f3 < (n : Int) := by omega
            obtain ⟨x1, -⟩ := Kd.R_celln false HIb.out.HS y.f3 k0 k1
            obtain ⟨b, hb⟩ : ∃ b, rdOf false set y.f3 = b := ⟨_, rfl⟩
            rw [hb] at x1
            have HBB := Aside0.mk hb
            clear hb h0 h1
            cases b with
            | true =>
              have HX := Aside0.mk (HBAD.out (.inr (.inl (by unfold okAt; rw [HBB.out]; simp))))
              go_region
              (try go_wp2)
              go_meet
              case rel => exact ⟨true, rfl, ⟨fun _ => HX.out⟩, ⟨fun h => by cases h⟩, ⟨below_drew1 (Below.refl _ _)⟩⟩
            | false =>
              have HOK : Aside0 (okAt n set y.f3 = true) := ⟨by rw [okAt_iff]; exact ⟨⟨k0, k1⟩, HBB.out⟩⟩
              have hr9 : Kd.C k70 Wb.drew A8 y.f2.f3.length y.f2.f3 := Kd.C_below hr8 (below_drew1 HIb.out.HB)
              have dx1 : Wb.drew.cell? ⟨s, y.f3.toNat, none⟩ = some (.bool false) := x1
              obtain ⟨KS, hKS⟩ := (sameRet_zero y.f2).ex
              have HKS := Aside0.mk hKS
              clear hKS
              have d0 : Wb.drew.cell? ⟨B, 0, none⟩ = some (.int .i64 y.f0) := q0
              have d1 : Wb.drew.cell? ⟨B, 1, none⟩ = some (.int .i64 y.f1.f0) := q1
              have d2 : Wb.drew.cell? ⟨B, 2, none⟩ = some (.int .i64 y.f1.f1) := q2
              have d3 : Wb.drew.cell? ⟨B, 3, none⟩ = some (.int .i64 y.f1.f2) := q3
              have d4 : Wb.drew.cell? ⟨B, 4, none⟩ = some (.int .i64 y.f1.f3) := q4
              have d5 : Wb.drew.cell? ⟨B, 5, none⟩ = some (.bool y.f2.f0) := q5
              have d6 : Wb.drew.cell? ⟨B, 6, none⟩ = some (.int .i64 y.f2.f1) := q6
              have d7 : Wb.drew.cell? ⟨B, 7, none⟩ = some (.int .i64 y.f2.f2) := q7
              have d8 : Wb.drew.cell? ⟨B, 8, none⟩ = some (.slice A8 y.f2.f3.length c8) := q8
              have d9 : Wb.drew.cell? ⟨B, 9, none⟩ = some (.int .i64 y.f3) := q9
              have d10 : Wb.drew.cell? ⟨B, 10, none⟩ = some (.int .i64 y.f4) := q10
              by_cases hj0 : 0 < j
              · have g2 : decide ((0 : Int) < (j : Int)) = true := decide_eq_true (by omega)
                have hfr : fr = (J76 l0 ((j - 1 : Nat) : Int)).f3 := by have := HF.out.1; rwa [if_neg (by omega)] at this
                obtain ⟨ad4, A4, c4, ea, -, -, -, -, -, -, -, -, -, z9, -, -, -⟩ := at_T76 hr0 ((j - 1 : Nat) : Int) (by omega) (by omega)
                cases ea
                rw [← hfr] at z9
                rw [Int.toNat_natCast] at z9
                have p9 := pw_cell_below HIb.out.HB z9
                have pd9 : Wb.drew.cell? ⟨(ad2.add ((j - 1) * 11)).block, (ad2.add ((j - 1) * 11)).off + 9, none⟩ = some (.int .i64 fr) := p9
                have j1 : (0 : Int) ≤ (j : Int) - 1 := by omega
                have j2 : (j : Int) - 1 < (l0.length : Int) := by omega
                have HFF := Aside0.mk hfr
                have HJP := Aside0.mk hj0
                by_cases h3 : y.f3 ≤ fr
                · have g3 : decide (y.f3 ≤ fr) = true := decide_eq_true h3
                  have HX := Aside0.mk (HBAD.out (.inl h3))
                  have j3 : IntKind.i64.wrap ((j : Int) - 1) = (j : Int) - 1 := IntWalk.i64_in _ (by omega)
                  have j4 : ((j : Int) - 1).toNat = j - 1 := by omega
                  clear h3 z9 hfr
                  go_region
                  (try go_wp2)
                  go_meet
                  case rel => exact ⟨true, rfl, ⟨fun _ => HX.out⟩, ⟨fun h => by cases h⟩, ⟨below_drew1 (Below.refl _ _)⟩⟩
                have g3 : decide (y.f3 ≤ fr) = false := decide_eq_false h3
                have HLT : Aside0 (fr < y.f3) := ⟨by omega⟩
                by_cases h4 : y.f4 = -1
                · have g4 : (y.f4 == -1) = true := by simpa using h4
                  have HX := Aside0.mk (fun (hb : bareB y.f2 = false) => HBAD.out (.inr (.inr ⟨h4, hb⟩)))
                  have j3 : IntKind.i64.wrap ((j : Int) - 1) = (j : Int) - 1 := IntWalk.i64_in _ (by omega)
                  have j4 : ((j : Int) - 1).toNat = j - 1 := by omega
                  clear h3 h4 z9 hfr
                  have j5 : (1 : Int) ≤ (j : Int) := by have := HJP.out; omega
                  go_region_held3 (fun w' => w'.cell? ⟨B, 0, none⟩ = some (.int .i64 y.f0) ∧ w'.cell? ⟨B, 1, none⟩ = some (.int .i64 y.f1.f0) ∧ w'.cell? ⟨B, 2, none⟩ = some (.int .i64 y.f1.f1) ∧ w'.cell? ⟨B, 3, none⟩ = some (.int .i64 y.f1.f2) ∧ w'.cell? ⟨B, 4, none⟩ = some (.int .i64 y.f1.f3) ∧ w'.cell? ⟨B, 5, none⟩ = some (.bool y.f2.f0) ∧ w'.cell? ⟨B, 6, none⟩ = some (.int .i64 y.f2.f1) ∧ w'.cell? ⟨B, 7, none⟩ = some (.int .i64 y.f2.f2) ∧ w'.cell? ⟨B, 8, none⟩ = some (.slice A8 y.f2.f3.length c8) ∧ w'.cell? ⟨B, 9, none⟩ = some (.int .i64 y.f3) ∧ w'.cell? ⟨B, 10, none⟩ = some (.int .i64 y.f4) ∧ w'.cell? ⟨s, y.f3.toNat, none⟩ = some (.bool false) ∧ w'.cell? ⟨(ad2.add ((j - 1) * 11)).block, (ad2.add ((j - 1) * 11)).off + 9, none⟩ = some (.int .i64 fr)) (first | exact ⟨q0, q1, q2, q3, q4, q5, q6, q7, q8, q9, q10, x1, p9⟩ | exact ⟨e0, e1, e2, e3, e4, e5, e6, e7, e8, e9, e10, ex1, ep9⟩) (first
                    | (go_at_call 63; refine (larchref05_SameRet.calls KS y.f2.f0 y.f2.f1 y.f2.f2 A8 c8 y.f2.f3 false 0 0 none 0 [] (bareB y.f2) _ hr9 hc8 (Kd.C_nil _ _) (Nat.le_refl _) HKS.out).mono ?_; rintro e w3 ⟨rfl, hb⟩; have HB3 := Aside0.mk (below_step (below_drew1 (Below.refl _ _)) hb); have e0 := pw_cell_below hb d0; have e1 := pw_cell_below hb d1; have e2 := pw_cell_below hb d2; have e3 := pw_cell_below hb d3; have e4 := pw_cell_below hb d4; have e5 := pw_cell_below hb d5; have e6 := pw_cell_below hb d6; have e7 := pw_cell_below hb d7; have e8 := pw_cell_below hb d8; have e9 := pw_cell_below hb d9; have e10 := pw_cell_below hb d10; have ex1 := pw_cell_below hb dx1; have ep9 := pw_cell_below hb pd9; clear hb))
                  (try go_wp2)
                  go_meet
                  case rel => exact ⟨!bareB y.f2, rfl, ⟨fun h => HX.out (by simpa using h)⟩, ⟨fun h => ⟨⟨HLT.out, HOK.out⟩, fun _ => by simpa using h⟩⟩, HB3⟩
                · have g4 : (y.f4 == -1) = false := by simpa using h4
                  have HN4 := Aside0.mk h4
                  have j3 : IntKind.i64.wrap ((j : Int) - 1) = (j : Int) - 1 := IntWalk.i64_in _ (by omega)
                  have j4 : ((j : Int) - 1).toNat = j - 1 := by omega
                  clear h3 h4 z9 hfr
                  go_region
                  (try go_wp2)
                  go_meet
                  case rel => exact ⟨false, rfl, ⟨fun h => by cases h⟩, ⟨fun _ => ⟨⟨HLT.out, HOK.out⟩, fun h => absurd h HN4.out⟩⟩, ⟨below_drew1 (Below.refl _ _)⟩⟩
              · have g2 : decide ((0 : Int) < (j : Int)) = false := decide_eq_false (by omega)
                have hjz : (j : Int) ≤ 0 := by omega
                have HLT : Aside0 (fr < y.f3) := ⟨by have := HF.out.1; rw [if_pos (by omega)] at this; omega⟩
                by_cases h4 : y.f4 = -1
                · have g4 : (y.f4 == -1) = true := by simpa using h4
                  have HX := Aside0.mk (fun (hb : bareB y.f2 = false) => HBAD.out (.inr (.inr ⟨h4, hb⟩)))
                  clear h4
                  clear hjz hj0
                  obtain ⟨jj, hjj⟩ : ∃ jj : Int, (j : Int) = jj := ⟨_, rfl⟩
                  rw [hjj] at g2 ⊢
                  have HJJ := Aside0.mk hjj
                  clear hjj
                  refine start_ (n := 43) (S := fun w' => w'.cell? ⟨B, 0, none⟩ = some (.int .i64 y.f0) ∧ w'.cell? ⟨B, 1, none⟩ = some (.int .i64 y.f1.f0) ∧ w'.cell? ⟨B, 2, none⟩ = some (.int .i64 y.f1.f1) ∧ w'.cell? ⟨B, 3, none⟩ = some (.int .i64 y.f1.f2) ∧ w'.cell? ⟨B, 4, none⟩ = some (.int .i64 y.f1.f3) ∧ w'.cell? ⟨B, 5, none⟩ = some (.bool y.f2.f0) ∧ w'.cell? ⟨B, 6, none⟩ = some (.int .i64 y.f2.f1) ∧ w'.cell? ⟨B, 7, none⟩ = some (.int .i64 y.f2.f2) ∧ w'.cell? ⟨B, 8, none⟩ = some (.slice A8 y.f2.f3.length c8) ∧ w'.cell? ⟨B, 9, none⟩ = some (.int .i64 y.f3) ∧ w'.cell? ⟨B, 10, none⟩ = some (.int .i64 y.f4) ∧ w'.cell? ⟨s, y.f3.toNat, none⟩ = some (.bool false)) (ds := []) #[false, false, false, false, false, false, false, false, false, false, false, false, false, false, false, false, false, false, false, false, false, false, false, false, false, false, false, false, false, false, false, false, false, false, false, false, false, false, false, false, false, false, false] (by kernel_rfl) rfl rfl ⟨d0, d1, d2, d3, d4, d5, d6, d7, d8, d9, d10, dx1⟩ (fun hHeld => ?_); refine with_tabW evTab18 evBits18 (fun HT_ HW_ => ?_)
                  have hbd := Aside0.mk (below_drew1 (Below.refl Wb.heap.size Wb))
                  generalize Wb.drew = W2 at hbd hr9 hHeld ⊢
                  refine pure_ (i := 0) (N := some 48) (v := ?_) (a' := ?_) #[true, false, false, false, false, false, false, false, false, false, false, false, false, false, false, false, false, false, false, false, false, false, false, false, false, false, false, false, false, false, false, false, false, false, false, false, false, false, false, false, false, false, false] rfl rfl (any_of HT_.out (by kernel_rfl)) (fun _ _ _ h => h) (Or.inl ⟨by rfl, ?_⟩) ?_ ?_
                  (rotate_left; (· intro w'; go_simp; with_reducible rfl); rotate_left; (· simp only [Act.put, List.setIfInBounds_toArray, List.set_cons_zero, List.set_cons_succ, i64_w, i32_w]; rfl))
                  refine take_ (i := 1) (N := some 49) (v := ?_) (a' := ?_) #[true, true, false, false, false, false, false, false, false, false, false, false, false, false, false, false, false, false, false, false, false, false, false, false, false, false, false, false, false, false, false, false, false, false, false, false, false, false, false, false, false, false, false] rfl rfl (take_ofW HT_.out HW_.out (by kernel_rfl)) (fun _ _ _ h => h) (Or.inl ⟨by rfl, ?_⟩) hHeld ?_ ?_
                  (rotate_left; (· rintro w' ⟨s0, s1, s2, s3, s4, s5, s6, s7, s8, s9, s10, s11⟩; go_simp; with_reducible rfl); rotate_left; (· simp only [Act.put, List.setIfInBounds_toArray, List.set_cons_zero, List.set_cons_succ, i64_w, i32_w]; rfl))
                  refine pure_ (i := 2) (N := some 50) (v := ?_) (a' := ?_) #[true, true, true, false, false, false, false, false, false, false, false, false, false, false, false, false, false, false, false, false, false, false, false, false, false, false, false, false, false, false, false, false, false, false, false, false, false, false, false, false, false, false, false] rfl rfl (any_of HT_.out (by kernel_rfl)) (fun _ _ _ h => h) (Or.inl ⟨by rfl, ?_⟩) ?_ ?_
                  (rotate_left; (· intro w'; go_simp; with_reducible rfl); rotate_left; (· simp only [Act.put, List.setIfInBounds_toArray, List.set_cons_zero, List.set_cons_succ, i64_w, i32_w]; rfl))
                  refine pure_ (i := 3) (N := some 51) (v := ?_) (a' := ?_) #[true, true, true, true, false, false, false, false, false, false, false, false, false, false, false, false, false, false, false, false, false, false, false, false, false, false, false, false, false, false, false, false, false, false, false, false, false, false, false, false, false, false, false] rfl rfl (any_of HT_.out (by kernel_rfl)) (fun _ _ _ h => h) (Or.inl ⟨by rfl, ?_⟩) ?_ ?_
                  (rotate_left; (· intro w'; go_simp; with_reducible rfl); rotate_left; (· simp only [Act.put, List.setIfInBounds_toArray, List.set_cons_zero, List.set_cons_succ, i64_w, i32_w]; rfl))
                  refine pure_ (i := 4) (N := some 52) (v := ?_) (a' := ?_) #[true, true, true, true, true, false, false, false, false, false, false, false, false, false, false, false, false, false, false, false, false, false, false, false, false, false, false, false, false, false, false, false, false, false, false, false, false, false, false, false, false, false, false] rfl rfl (any_of HT_.out (by kernel_rfl)) (fun _ _ _ h => h) (Or.inl ⟨by rfl, ?_⟩) ?_ ?_
                  (rotate_left; (· intro w'; go_simp; with_reducible rfl); rotate_left; (· simp only [Act.put, List.setIfInBounds_toArray, List.set_cons_zero, List.set_cons_succ, i64_w, i32_w]; rfl))
                  refine pure_ (i := 6) (N := some 54) (v := ?_) (a' := ?_) #[true, true, true, true, true, false, true, false, false, false, false, false, false, false, false, false, false, false, false, false, false, false, false, false, false, false, false, false, false, false, false, false, false, false, false, false, false, false, false, false, false, false, false] rfl rfl (any_of HT_.out (by kernel_rfl)) (fun _ _ _ h => h) (Or.inl ⟨by rfl, ?_⟩) ?_ ?_
                  (rotate_left; (· intro w'; go_simp; with_reducible rfl); rotate_left; (· simp only [Act.put, List.setIfInBounds_toArray, List.set_cons_zero, List.set_cons_succ, i64_w, i32_w]; rfl))
                  refine take_ (i := 5) (N := some 53) (v := ?_) (a' := ?_) #[true, true, true, true, true, true, true, false, false, false, false, false, false, false, false, false, false, false, false, false, false, false, false, false, false, false, false, false, false, false, false, false, false, false, false, false, false, false, false, false, false, false, false] rfl rfl (take_ofW HT_.out HW_.out (by kernel_rfl)) (fun _ _ _ h => h) (Or.inl ⟨by rfl, ?_⟩) hHeld ?_ ?_
                  (rotate_left; (· rintro w' ⟨s0, s1, s2, s3, s4, s5, s6, s7, s8, s9, s10, s11⟩; go_simp; with_reducible rfl); rotate_left; (· simp only [Act.put, List.setIfInBounds_toArray, List.set_cons_zero, List.set_cons_succ, i64_w, i32_w]; rfl))
                  refine pure_ (i := 7) (N := some 55) (v := ?_) (a' := ?_) #[true, true, true, true, true, true, true, true, false, false, false, false, false, false, false, false, false, false, false, false, false, false, false, false, false, false, false, false, false, false, false, false, false, false, false, false, false, false, false, false, false, false, false] rfl rfl (any_of HT_.out (by kernel_rfl)) (fun _ _ _ h => h) (Or.inl ⟨by rfl, ?_⟩) ?_ ?_
                  (rotate_left; (· intro w'; go_simp; with_reducible rfl); rotate_left; (· simp only [Act.put, List.setIfInBounds_toArray, List.set_cons_zero, List.set_cons_succ, i64_w, i32_w]; rfl))
                  refine pure_ (i := 8) (N := some 56) (v := ?_) (a' := ?_) #[true, true, true, true, true, true, true, true, true, false, false, false, false, false, false, false, false, false, false, false, false, false, false, false, false, false, false, false, false, false, false, false, false, false, false, false, false, false, false, false, false, false, false] rfl rfl (any_of HT_.out (by kernel_rfl)) (fun _ _ _ h => h) (Or.inl ⟨by rfl, ?_⟩) ?_ ?_
                  (rotate_left; (· intro w'; go_simp; with_reducible rfl); rotate_left; (· simp only [Act.put, List.setIfInBounds_toArray, List.set_cons_zero, List.set_cons_succ, i64_w, i32_w]; rfl))
                  refine pure_ (i := 9) (N := some 57) (v := ?_) (a' := ?_) #[true, true, true, true, true, true, true, true, true, true, false, false, false, false, false, false, false, false, false, false, false, false, false, false, false, false, false, false, false, false, false, false, false, false, false, false, false, false, false, false, false, false, false] rfl rfl (any_of HT_.out (by kernel_rfl)) (fun _ _ _ h => h) (Or.inl ⟨by rfl, ?_⟩) ?_ ?_
                  (rotate_left; (· intro w'; go_simp; with_reducible rfl); rotate_left; (· simp only [Act.put, List.setIfInBounds_toArray, List.set_cons_zero, List.set_cons_succ, i64_w, i32_w]; rfl))
                  refine pure_ (i := 10) (N := some 58) (v := ?_) (a' := ?_) #[true, true, true, true, true, true, true, true, true, true, true, false, false, false, false, false, false, false, false, false, false, false, false, false, false, false, false, false, false, false, false, false, false, false, false, false, false, false, false, false, false, false, false] rfl rfl (any_of HT_.out (by kernel_rfl)) (fun _ _ _ h => h) (Or.inl ⟨by rfl, ?_⟩) ?_ ?_
                  (rotate_left; (· intro w'; go_simp; with_reducible rfl); rotate_left; (· simp only [Act.put, List.setIfInBounds_toArray, List.set_cons_zero, List.set_cons_succ, i64_w, i32_w]; rfl))
                  refine pure_ (i := 11) (N := some 59) (v := ?_) (a' := ?_) #[true, true, true, true, true, true, true, true, true, true, true, true, false, false, false, false, false, false, false, false, false, false, false, false, false, false, false, false, false, false, false, false, false, false, false, false, false, false, false, false, false, false, false] rfl rfl (any_of HT_.out (by kernel_rfl)) (fun _ _ _ h => h) (Or.inl ⟨by rfl, ?_⟩) ?_ ?_
                  (rotate_left; (· intro w'; go_simp; with_reducible rfl); rotate_left; (· simp only [Act.put, List.setIfInBounds_toArray, List.set_cons_zero, List.set_cons_succ, i64_w, i32_w]; rfl))
                  refine take_ (i := 12) (N := some 60) (v := ?_) (a' := ?_) #[true, true, true, true, true, true, true, true, true, true, true, true, true, false, false, false, false, false, false, false, false, false, false, false, false, false, false, false, false, false, false, false, false, false, false, false, false, false, false, false, false, false, false] rfl rfl (take_ofW HT_.out HW_.out (by kernel_rfl)) (fun _ _ _ h => h) (Or.inl ⟨by rfl, ?_⟩) hHeld ?_ ?_
                  (rotate_left; (· rintro w' ⟨s0, s1, s2, s3, s4, s5, s6, s7, s8, s9, s10, s11⟩; go_simp; with_reducible rfl); rotate_left; (· simp only [Act.put, List.setIfInBounds_toArray, List.set_cons_zero, List.set_cons_succ, i64_w, i32_w]; rfl))
                  refine pure_ (i := 13) (N := some 61) (v := ?_) (a' := ?_) #[true, true, true, true, true, true, true, true, true, true, true, true, true, true, false, false, false, false, false, false, false, false, false, false, false, false, false, false, false, false, false, false, false, false, false, false, false, false, false, false, false, false, false] rfl rfl (any_of HT_.out (by kernel_rfl)) (fun _ _ _ h => h) (Or.inl ⟨by rfl, ?_⟩) ?_ ?_
                  (rotate_left; (· intro w'; go_simp; with_reducible rfl); rotate_left; (· simp only [Act.put, List.setIfInBounds_toArray, List.set_cons_zero, List.set_cons_succ, i64_w, i32_w]; rfl))
                  refine take_ (i := 14) (N := some 62) (v := ?_) (a' := ?_) #[true, true, true, true, true, true, true, true, true, true, true, true, true, true, true, false, false, false, false, false, false, false, false, false, false, false, false, false, false, false, false, false, false, false, false, false, false, false, false, false, false, false, false] rfl rfl (take_ofW HT_.out HW_.out (by kernel_rfl)) (fun _ _ _ h => h) (Or.inl ⟨by rfl, ?_⟩) hHeld ?_ ?_
                  (rotate_left; (· rintro w' ⟨s0, s1, s2, s3, s4, s5, s6, s7, s8, s9, s10, s11⟩; go_simp; with_reducible rfl); rotate_left; (· simp only [Act.put, List.setIfInBounds_toArray, List.set_cons_zero, List.set_cons_succ, i64_w, i32_w]; rfl))
                  refine pure_ (i := 15) (N := some 63) (v := ?_) (a' := ?_) #[true, true, true, true, true, true, true, true, true, true, true, true, true, true, true, true, false, false, false, false, false, false, false, false, false, false, false, false, false, false, false, false, false, false, false, false, false, false, false, false, false, false, false] rfl rfl (any_of HT_.out (by kernel_rfl)) (fun _ _ _ h => h) (Or.inl ⟨by rfl, ?_⟩) ?_ ?_
                  (rotate_left; (· intro w'; go_simp; with_reducible rfl); rotate_left; (· simp only [Act.put, List.setIfInBounds_toArray, List.set_cons_zero, List.set_cons_succ, i64_w, i32_w]; rfl))
                  refine pure_ (i := 16) (N := some 64) (v := ?_) (a' := ?_) #[true, true, true, true, true, true, true, true, true, true, true, true, true, true, true, true, true, false, false, false, false, false, false, false, false, false, false, false, false, false, false, false, false, false, false, false, false, false, false, false, false, false, false] rfl rfl (any_of HT_.out (by kernel_rfl)) (fun _ _ _ h => h) (Or.inl ⟨by rfl, ?_⟩) ?_ ?_
                  (rotate_left; (· intro w'; go_simp; with_reducible rfl); rotate_left; (· simp only [Act.put, List.setIfInBounds_toArray, List.set_cons_zero, List.set_cons_succ, i64_w, i32_w]; rfl))
                  refine pure_ (i := 17) (N := some 65) (v := ?_) (a' := ?_) #[true, true, true, true, true, true, true, true, true, true, true, true, true, true, true, true, true, true, false, false, false, false, false, false, false, false, false, false, false, false, false, false, false, false, false, false, false, false, false, false, false, false, false] rfl rfl (any_of HT_.out (by kernel_rfl)) (fun _ _ _ h => h) (Or.inl ⟨by rfl, ?_⟩) ?_ ?_
                  (rotate_left; (· intro w'; go_simp; with_reducible rfl); rotate_left; (· simp only [Act.put, List.setIfInBounds_toArray, List.set_cons_zero, List.set_cons_succ, i64_w, i32_w]; rfl))
                  refine pure_ (i := 18) (N := some 66) (v := ?_) (a' := ?_) #[true, true, true, true, true, true, true, true, true, true, true, true, true, true, true, true, true, true, true, false, false, false, false, false, false, false, false, false, false, false, false, false, false, false, false, false, false, false, false, false, false, false, false] rfl rfl (any_of HT_.out (by kernel_rfl)) (fun _ _ _ h => h) (Or.inl ⟨by rfl, ?_⟩) ?_ ?_
                  (rotate_left; (· intro w'; go_simp; with_reducible rfl); rotate_left; (· simp only [Act.put, List.setIfInBounds_toArray, List.set_cons_zero, List.set_cons_succ, i64_w, i32_w]; rfl))
                  refine pure_ (i := 19) (N := some 67) (v := ?_) (a' := ?_) #[true, true, true, true, true, true, true, true, true, true, true, true, true, true, true, true, true, true, true, true, false, false, false, false, false, false, false, false, false, false, false, false, false, false, false, false, false, false, false, false, false, false, false] rfl rfl (any_of HT_.out (by kernel_rfl)) (fun _ _ _ h => h) (Or.inl ⟨by rfl, ?_⟩) ?_ ?_
                  (rotate_left; (· intro w'; go_simp; with_reducible rfl); rotate_left; (· simp only [Act.put, List.setIfInBounds_toArray, List.set_cons_zero, List.set_cons_succ, i64_w, i32_w]; rfl))
                  refine pure_ (i := 20) (N := some 68) (v := undef) (a' := ?_) #[true, true, true, true, true, true, true, true, true, true, true, true, true, true, true, true, true, true, true, true, true, false, false, false, false, false, false, false, false, false, false, false, false, false, false, false, false, false, false, false, false, false, false] rfl rfl (any_of HT_.out (by kernel_rfl)) (fun _ _ _ h => h) (Or.inr ⟨by rfl, rfl⟩) ?_ ?_
                  (rotate_left; (· simp only [Act.put, List.setIfInBounds_toArray, List.set_cons_zero, List.set_cons_succ, i64_w, i32_w]; rfl))
                  refine pure_ (i := 21) (N := some 69) (v := undef) (a' := ?_) #[true, true, true, true, true, true, true, true, true, true, true, true, true, true, true, true, true, true, true, true, true, true, false, false, false, false, false, false, false, false, false, false, false, false, false, false, false, false, false, false, false, false, false] rfl rfl (any_of HT_.out (by kernel_rfl)) (fun _ _ _ h => h) (Or.inr ⟨by rfl, rfl⟩) ?_ ?_
                  (rotate_left; (· simp only [Act.put, List.setIfInBounds_toArray, List.set_cons_zero, List.set_cons_succ, i64_w, i32_w]; rfl))
                  refine pure_ (i := 22) (N := some 70) (v := undef) (a' := ?_) #[true, true, true, true, true, true, true, true, true, true, true, true, true, true, true, true, true, true, true, true, true, true, true, false, false, false, false, false, false, false, false, false, false, false, false, false, false, false, false, false, false, false, false] rfl rfl (any_of HT_.out (by kernel_rfl)) (fun _ _ _ h => h) (Or.inr ⟨by rfl, rfl⟩) ?_ ?_
                  (rotate_left; (· simp only [Act.put, List.setIfInBounds_toArray, List.set_cons_zero, List.set_cons_succ, i64_w, i32_w]; rfl))
                  refine pure_ (i := 23) (N := some 71) (v := undef) (a' := ?_) #[true, true, true, true, true, true, true, true, true, true, true, true, true, true, true, true, true, true, true, true, true, true, true, true, false, false, false, false, false, false, false, false, false, false, false, false, false, false, false, false, false, false, false] rfl rfl (any_of HT_.out (by kernel_rfl)) (fun _ _ _ h => h) (Or.inr ⟨by rfl, rfl⟩) ?_ ?_
                  (rotate_left; (· simp only [Act.put, List.setIfInBounds_toArray, List.set_cons_zero, List.set_cons_succ, i64_w, i32_w]; rfl))
                  refine pure_ (i := 24) (N := some 72) (v := undef) (a' := ?_) #[true, true, true, true, true, true, true, true, true, true, true, true, true, true, true, true, true, true, true, true, true, true, true, true, true, false, false, false, false, false, false, false, false, false, false, false, false, false, false, false, false, false, false] rfl rfl (any_of HT_.out (by kernel_rfl)) (fun _ _ _ h => h) (Or.inr ⟨by rfl, rfl⟩) ?_ ?_
                  (rotate_left; (· simp only [Act.put, List.setIfInBounds_toArray, List.set_cons_zero, List.set_cons_succ, i64_w, i32_w]; rfl))
                  refine pure_ (i := 25) (N := some 73) (v := undef) (a' := ?_) #[true, true, true, true, true, true, true, true, true, true, true, true, true, true, true, true, true, true, true, true, true, true, true, true, true, true, false, false, false, false, false, false, false, false, false, false, false, false, false, false, false, false, false] rfl rfl (any_of HT_.out (by kernel_rfl)) (fun _ _ _ h => h) (Or.inr ⟨by rfl, rfl⟩) ?_ ?_
                  (rotate_left; (· simp only [Act.put, List.setIfInBounds_toArray, List.set_cons_zero, List.set_cons_succ, i64_w, i32_w]; rfl))
                  refine pure_ (i := 26) (N := some 74) (v := undef) (a' := ?_) #[true, true, true, true, true, true, true, true, true, true, true, true, true, true, true, true, true, true, true, true, true, true, true, true, true, true, true, false, false, false, false, false, false, false, false, false, false, false, false, false, false, false, false] rfl rfl (any_of HT_.out (by kernel_rfl)) (fun _ _ _ h => h) (Or.inr ⟨by rfl, rfl⟩) ?_ ?_
                  (rotate_left; (· simp only [Act.put, List.setIfInBounds_toArray, List.set_cons_zero, List.set_cons_succ, i64_w, i32_w]; rfl))
                  refine pure_ (i := 27) (N := some 75) (v := undef) (a' := ?_) #[true, true, true, true, true, true, true, true, true, true, true, true, true, true, true, true, true, true, true, true, true, true, true, true, true, true, true, true, false, false, false, false, false, false, false, false, false, false, false, false, false, false, false] rfl rfl (any_of HT_.out (by kernel_rfl)) (fun _ _ _ h => h) (Or.inr ⟨by rfl, rfl⟩) ?_ ?_
                  (rotate_left; (· simp only [Act.put, List.setIfInBounds_toArray, List.set_cons_zero, List.set_cons_succ, i64_w, i32_w]; rfl))
                  refine pure_ (i := 28) (N := some 76) (v := undef) (a' := ?_) #[true, true, true, true, true, true, true, true, true, true, true, true, true, true, true, true, true, true, true, true, true, true, true, true, true, true, true, true, true, false, false, false, false, false, false, false, false, false, false, false, false, false, false] rfl rfl (any_of HT_.out (by kernel_rfl)) (fun _ _ _ h => h) (Or.inr ⟨by rfl, rfl⟩) ?_ ?_
                  (rotate_left; (· simp only [Act.put, List.setIfInBounds_toArray, List.set_cons_zero, List.set_cons_succ, i64_w, i32_w]; rfl))
                  refine pure_ (i := 29) (N := some 77) (v := ?_) (a' := ?_) #[true, true, true, true, true, true, true, true, true, true, true, true, true, true, true, true, true, true, true, true, true, true, true, true, true, true, true, true, true, true, false, false, false, false, false, false, false, false, false, false, false, false, false] rfl rfl (any_of HT_.out (by kernel_rfl)) (fun _ _ _ h => h) (Or.inl ⟨by rfl, ?_⟩) ?_ ?_
                  (rotate_left; (· intro w'; go_simp; with_reducible rfl); rotate_left; (· simp only [Act.put, List.setIfInBounds_toArray, List.set_cons_zero, List.set_cons_succ, i64_w, i32_w]; rfl))
                  refine pure_ (i := 30) (N := some 78) (v := ?_) (a' := ?_) #[true, true, true, true, true, true, true, true, true, true, true, true, true, true, true, true, true, true, true, true, true, true, true, true, true, true, true, true, true, true, true, false, false, false, false, false, false, false, false, false, false, false, false] rfl rfl (any_of HT_.out (by kernel_rfl)) (fun _ _ _ h => h) (Or.inl ⟨by rfl, ?_⟩) ?_ ?_
                  (rotate_left; (· intro w'; go_simp; with_reducible rfl); rotate_left; (· simp only [Act.put, List.setIfInBounds_toArray, List.set_cons_zero, List.set_cons_succ, i64_w, i32_w]; rfl))
                  refine pure_ (i := 31) (N := some 79) (v := ?_) (a' := ?_) #[true, true, true, true, true, true, true, true, true, true, true, true, true, true, true, true, true, true, true, true, true, true, true, true, true, true, true, true, true, true, true, true, false, false, false, false, false, false, false, false, false, false, false] rfl rfl (any_of HT_.out (by kernel_rfl)) (fun _ _ _ h => h) (Or.inl ⟨by rfl, ?_⟩) ?_ ?_
                  (rotate_left; (· intro w'; go_simp; with_reducible rfl); rotate_left; (· simp only [Act.put, List.setIfInBounds_toArray, List.set_cons_zero, List.set_cons_succ, i64_w, i32_w]; rfl))
                  refine pure_ (i := 32) (N := some 80) (v := ?_) (a' := ?_) #[true, true, true, true, true, true, true, true, true, true, true, true, true, true, true, true, true, true, true, true, true, true, true, true, true, true, true, true, true, true, true, true, true, false, false, false, false, false, false, false, false, false, false] rfl rfl (any_of HT_.out (by kernel_rfl)) (fun _ _ _ h => h) (Or.inl ⟨by rfl, ?_⟩) ?_ ?_
                  (rotate_left; (· intro w'; go_simp; with_reducible rfl); rotate_left; (· simp only [Act.put, List.setIfInBounds_toArray, List.set_cons_zero, List.set_cons_succ, i64_w, i32_w]; rfl))
                  refine take_ (i := 33) (N := some 81) (v := ?_) (a' := ?_) #[true, true, true, true, true, true, true, true, true, true, true, true, true, true, true, true, true, true, true, true, true, true, true, true, true, true, true, true, true, true, true, true, true, true, false, false, false, false, false, false, false, false, false] rfl rfl (take_ofW HT_.out HW_.out (by kernel_rfl)) (fun _ _ _ h => h) (Or.inl ⟨by rfl, ?_⟩) hHeld ?_ ?_
                  (rotate_left; (· rintro w' ⟨s0, s1, s2, s3, s4, s5, s6, s7, s8, s9, s10, s11⟩; go_simp; with_reducible rfl); rotate_left; (· simp only [Act.put, List.setIfInBounds_toArray, List.set_cons_zero, List.set_cons_succ, i64_w, i32_w]; rfl))
                  refine pure_ (i := 34) (N := some 82) (v := ?_) (a' := ?_) #[true, true, true, true, true, true, true, true, true, true, true, true, true, true, true, true, true, true, true, true, true, true, true, true, true, true, true, true, true, true, true, true, true, true, true, false, false, false, false, false, false, false, false] rfl rfl (any_of HT_.out (by kernel_rfl)) (fun _ _ _ h => h) (Or.inl ⟨by rfl, ?_⟩) ?_ ?_
                  (rotate_left; (· intro w'; go_simp; with_reducible rfl); rotate_left; (· simp only [Act.put, List.setIfInBounds_toArray, List.set_cons_zero, List.set_cons_succ, i64_w, i32_w]; rfl))
                  refine pure_ (i := 35) (N := some 83) (v := ?_) (a' := ?_) #[true, true, true, true, true, true, true, true, true, true, true, true, true, true, true, true, true, true, true, true, true, true, true, true, true, true, true, true, true, true, true, true, true, true, true, true, false, false, false, false, false, false, false] rfl rfl (any_of HT_.out (by kernel_rfl)) (fun _ _ _ h => h) (Or.inl ⟨by rfl, ?_⟩) ?_ ?_
                  (rotate_left; (· intro w'; go_simp; with_reducible rfl); rotate_left; (· simp only [Act.put, List.setIfInBounds_toArray, List.set_cons_zero, List.set_cons_succ, i64_w, i32_w]; rfl))
                  refine pure_ (i := 36) (N := some 84) (v := ?_) (a' := ?_) #[true, true, true, true, true, true, true, true, true, true, true, true, true, true, true, true, true, true, true, true, true, true, true, true, true, true, true, true, true, true, true, true, true, true, true, true, true, false, false, false, false, false, false] rfl rfl (any_of HT_.out (by kernel_rfl)) (fun _ _ _ h => h) (Or.inl ⟨by rfl, ?_⟩) ?_ ?_
                  (rotate_left; (· intro w'; go_simp; with_reducible rfl); rotate_left; (· simp only [Act.put, List.setIfInBounds_toArray, List.set_cons_zero, List.set_cons_succ, i64_w, i32_w]; rfl))
                  refine pure_ (i := 38) (N := some 86) (v := ?_) (a' := ?_) #[true, true, true, true, true, true, true, true, true, true, true, true, true, true, true, true, true, true, true, true, true, true, true, true, true, true, true, true, true, true, true, true, true, true, true, true, true, false, true, false, false, false, false] rfl rfl (any_of HT_.out (by kernel_rfl)) (fun _ _ _ h => h) (Or.inl ⟨by rfl, ?_⟩) ?_ ?_
                  (rotate_left; (· intro w'; go_simp; with_reducible rfl); rotate_left; (· simp only [Act.put, List.setIfInBounds_toArray, List.set_cons_zero, List.set_cons_succ, i64_w, i32_w]; rfl))
                  refine take_ (i := 37) (N := some 85) (v := ?_) (a' := ?_) #[true, true, true, true, true, true, true, true, true, true, true, true, true, true, true, true, true, true, true, true, true, true, true, true, true, true, true, true, true, true, true, true, true, true, true, true, true, true, true, false, false, false, false] rfl rfl (take_ofW HT_.out HW_.out (by kernel_rfl)) (fun _ _ _ h => h) (Or.inl ⟨by rfl, ?_⟩) hHeld ?_ ?_
                  (rotate_left; (· rintro w' ⟨s0, s1, s2, s3, s4, s5, s6, s7, s8, s9, s10, s11⟩; go_simp; with_reducible rfl); rotate_left; (· simp only [Act.put, List.setIfInBounds_toArray, List.set_cons_zero, List.set_cons_succ, i64_w, i32_w]; rfl))
                  refine one_ (i := 39) (N := some 87) #[true, true, true, true, true, true, true, true, true, true, true, true, true, true, true, true, true, true, true, true, true, true, true, true, true, true, true, true, true, true, true, true, true, true, true, true, true, true, true, true, false, false, false] rfl rfl (one_of HT_.out (by kernel_rfl)) (by decide) (fun K hK => ?_)
                  refine goes_ Try.func63 (by kernel_rfl) rfl #[.agg #[.bool y.f2.f0, .int .i64 y.f2.f1, .int .i64 y.f2.f2, .slice A8 y.f2.f3.length c8], .agg #[.bool false, .int .i64 0, .int .i64 0, .slice none 0 0]] (by rfl) rfl rfl (by (try simp only [List.map_toArray, List.map_cons, List.map_nil]); first | done | rfl | (simp only [List.length_drop, List.length_take]; rfl)) ?_
                  refine (larchref05_SameRet.calls KS y.f2.f0 y.f2.f1 y.f2.f2 A8 c8 y.f2.f3 false 0 0 none 0 [] (bareB y.f2) _ hr9 hc8 (Kd.C_nil _ _) (Nat.le_refl _) HKS.out).mono ?_
                  rintro e w3 ⟨rfl, hb⟩
                  have HB3 := Aside0.mk (below_step hbd.out hb)
                  refine ⟨_, rfl, ?_⟩
                  refine hK.out _ _ ⟨pw_cell_below hb hHeld.1, pw_cell_below hb hHeld.2.1, pw_cell_below hb hHeld.2.2.1, pw_cell_below hb hHeld.2.2.2.1, pw_cell_below hb hHeld.2.2.2.2.1, pw_cell_below hb hHeld.2.2.2.2.2.1, pw_cell_below hb hHeld.2.2.2.2.2.2.1, pw_cell_below hb hHeld.2.2.2.2.2.2.2.1, pw_cell_below hb hHeld.2.2.2.2.2.2.2.2.1, pw_cell_below hb hHeld.2.2.2.2.2.2.2.2.2.1, pw_cell_below hb hHeld.2.2.2.2.2.2.2.2.2.2.1, pw_cell_below hb hHeld.2.2.2.2.2.2.2.2.2.2.2⟩ (fun hHeld => ?_)
                  clear hK K
                  refine norm_ (a' := ?_) ?_ ?_
                  rotate_left
                  · show Act.put _ (some 87) _ = _
                    simp only [Act.put, List.setIfInBounds_toArray, List.set_cons_zero, List.set_cons_succ, i64_w, i32_w]
                    rfl
                  refine pure_ (i := 40) (N := some 88) (v := ?_) (a' := ?_) #[true, true, true, true, true, true, true, true, true, true, true, true, true, true, true, true, true, true, true, true, true, true, true, true, true, true, true, true, true, true, true, true, true, true, true, true, true, true, true, true, true, false, false] rfl rfl (any_of HT_.out (by kernel_rfl)) (fun _ _ _ h => h) (Or.inl ⟨by rfl, ?_⟩) ?_ ?_
                  (rotate_left; (· intro w'; go_simp; with_reducible rfl); rotate_left; (· simp only [Act.put, List.setIfInBounds_toArray, List.set_cons_zero, List.set_cons_succ, i64_w, i32_w]; rfl))
                  refine pure_ (i := 41) (N := some 89) (v := ?_) (a' := ?_) #[true, true, true, true, true, true, true, true, true, true, true, true, true, true, true, true, true, true, true, true, true, true, true, true, true, true, true, true, true, true, true, true, true, true, true, true, true, true, true, true, true, true, false] rfl rfl (any_of HT_.out (by kernel_rfl)) (fun _ _ _ h => h) (Or.inl ⟨by rfl, ?_⟩) ?_ ?_
                  (rotate_left; (· intro w'; go_simp; with_reducible rfl); rotate_left; (· simp only [Act.put, List.setIfInBounds_toArray, List.set_cons_zero, List.set_cons_succ, i64_w, i32_w]; rfl))
                  refine pure_ (i := 42) (N := some 90) (v := ?_) (a' := ?_) #[true, true, true, true, true, true, true, true, true, true, true, true, true, true, true, true, true, true, true, true, true, true, true, true, true, true, true, true, true, true, true, true, true, true, true, true, true, true, true, true, true, true, true] rfl rfl (any_of HT_.out (by kernel_rfl)) (fun _ _ _ h => h) (Or.inl ⟨by rfl, ?_⟩) ?_ ?_
                  (rotate_left; (· intro w'; go_simp; with_reducible rfl); rotate_left; (· simp only [Act.put, List.setIfInBounds_toArray, List.set_cons_zero, List.set_cons_succ, i64_w, i32_w]; rfl))
                  refine done_ (done_of HT_.out (by kernel_rfl)) ?_
                  have hjj := HJJ.out
                  clear HJJ
                  subst hjj
                  (try go_wp2)
                  go_meet
                  case rel => exact ⟨!bareB y.f2, rfl, ⟨fun h => HX.out (by simpa using h)⟩, ⟨fun h => ⟨⟨HLT.out, HOK.out⟩, fun _ => by simpa using h⟩⟩, HB3⟩
                · have g4 : (y.f4 == -1) = false := by simpa using h4
                  have HN4 := Aside0.mk h4
                  clear h4
                  go_region
                  (try go_wp2)
                  go_meet
                  case rel => exact ⟨false, rfl, ⟨fun h => by cases h⟩, ⟨fun _ => ⟨⟨HLT.out, HOK.out⟩, fun h => absurd h HN4.out⟩⟩, ⟨below_drew1 (Below.refl _ _)⟩⟩
          case rest =>
            obtain ⟨b, rfl, HB1, HB2, hbw⟩ := hcut
            have HIc := Aside0.mk (HIb.out.below hbw.out)
            have HBc := Aside0.mk (HBX.out.below hbw.out)
            have HBc2 := Aside0.mk (below_step HIb.out.HB hbw.out)
            clear hbw HIb HBX HBAD
            cases b with
            | true =>
              obtain ⟨rfl, rfl⟩ := HB1.out rfl
              go_wp2
              go_ret2
              exact ⟨_, rfl, Kd.S_nil _ _ _ _ _, HIc.out.HB⟩
            | false =>
              obtain ⟨⟨hlt3, hok⟩, hbare⟩ := HB2.out rfl
              obtain ⟨⟨k0, k1⟩, -⟩ := (okAt_iff n set y.f3).1 hok
              have hg2 : refEv k l0 (if y.f4 = -1 then evGo (l0.map unc) n (l0.length - (j + 1)) (j + 1) y.f3 (set.set y.f3.toNat true) (out.set y.f3.toNat (invE (unc y))) else if y.f4 ≤ y.f3 then none else if okAt n (set.set y.f3.toNat true) y.f4 = true then evGo (l0.map unc) n (l0.length - (j + 1)) (j + 1) y.f3 ((set.set y.f3.toNat true).set y.f4.toNat true) ((out.set y.f3.toNat (invE (unc y))).set y.f4.toNat (retE (unc y))) else none) = some (r1, r2) := by
                have hg := HG.out
                rw [if_neg (show ¬ (unc y).f3 ≤ fr by show ¬ y.f3 ≤ fr; omega), if_pos (show okAt n set (unc y).f3 = true from hok)] at hg
                by_cases h4 : y.f4 = -1
                · rw [if_pos (show (unc y).f4 = -1 from h4), if_pos (show bareB (unc y).f2 = true from hbare h4)] at hg
                  rw [if_pos h4]
                  exact hg
                · rw [if_neg (show ¬ (unc y).f4 = -1 from h4)] at hg
                  rw [if_neg h4]
                  exact hg
              have HG2 := Aside0.mk hg2
              have HL3 : Aside0 (-1 ≤ y.f3) := ⟨by omega⟩
              clear hg2 HG hbare HB1 HB2 hok hlt3
              obtain ⟨x1, f1⟩ := Kd.R_celln false HIc.out.HS y.f3 k0 k1
              obtain ⟨q0, q1, q2, q3, q4, q5, q6, q7, q8, q9, q10⟩ := HBc.out
              go_upto_region 21 with (fail)
              have HI1 := Aside0.mk (HIc.out.set1 y.f3)
              have HX1 := Aside0.mk (HBc.out.heap (Below.heap_setCell _ ⟨s, y.f3.toNat, none⟩ (.bool true) B hBs))
              clear q0 q1 q2 q3 q4 q5 q6 q7 q8 q9 q10 x1 f1 HIc HBc
              generalize World.setCell _ ⟨s, y.f3.toNat, none⟩ (.bool true) = w5 at HI1 HX1 ⊢
              have hOb := Kd.S_mono (Kd.S_bound HI1.out.HO) (fun _ hk => hk.2.2.1)
              obtain ⟨hc, hf, -, -⟩ := S_put67 (A := none) (m := 0) (invE (unc y)) hOb (Kd.R_nil _ _ _ _ _) HI1.out.HB.size y.f3 k0 k1
              obtain ⟨u0, c20⟩ := hc 0 (by decide)
              have z0 := hf 0
              obtain ⟨u1, c21⟩ := hc 1 (by decide)
              have z1 := hf 1
              obtain ⟨u2, c22⟩ := hc 2 (by decide)
              have z2 := hf 2
              obtain ⟨u3, c23⟩ := hc 3 (by decide)
              have z3 := hf 3
              obtain ⟨u4, c24⟩ := hc 4 (by decide)
              have z4 := hf 4
              obtain ⟨u5, c25⟩ := hc 5 (by decide)
              have z5 := hf 5
              obtain ⟨u6, c26⟩ := hc 6 (by decide)
              have z6 := hf 6
              obtain ⟨u7, c27⟩ := hc 7 (by decide)
              have z7 := hf 7
              obtain ⟨u8, c28⟩ := hc 8 (by decide)
              have z8 := hf 8
              obtain ⟨u9, c29⟩ := hc 9 (by decide)
              have z9 := hf 9
              simp only [Nat.add_zero] at c20 z0
              obtain ⟨p1, p2⟩ := HI1.out.put y.f3 k0 k1 (invE (unc y)) (A9 := none) (c9 := 0) (Kd.R_nil _ _ _ _ _) HI1.out.HB.size hOb
              have HI2 := Aside0.mk p1
              have HX2 := Aside0.mk (HX1.out.heap (p2 B HX1.out.lt hBg))
              clear hc hf p1 p2 hOb
              obtain ⟨q0, q1, q2, q3, q4, q5, q6, q7, q8, q9, q10⟩ := HX1.out
              go_upto_region 22 with (fail)
              change Code.wp _ _ _ _ (w5.setCells g (y.f3.toNat * 10) (c67 (invE (unc y)) none 0))
              clear c20 c21 c22 c23 c24 c25 c26 c27 c28 c29 z0 z1 z2 z3 z4 z5 z6 z7 z8 z9 q0 q1 q2 q3 q4 q5 q6 q7 q8 q9 q10 HI1 HX1
              generalize w5.setCells g (y.f3.toNat * 10) (c67 (invE (unc y)) none 0) = w6 at HI2 HX2 ⊢
              obtain ⟨q0, q1, q2, q3, q4, q5, q6, q7, q8, q9, q10⟩ := HX2.out
              by_cases h4 : y.f4 = -1
              · have g4 : (y.f4 == -1) = true := by simpa using h4
                have HG3 := HG2
                rw [if_pos h4] at HG3
                clear h4 HG2
                go_wp2
                go_roundw
                case rel => exact ⟨j + 1, y.f3, _, _, by go_num, by omega, HG3, ⟨by rw [if_neg (by omega), Nat.add_sub_cancel, ← HY.out], HL3.out⟩, HI2.out⟩
                case measure => simp [intOf]; omega
              have g4 : (y.f4 == -1) = false := by simpa using h4
              have fin : refEv k l0 none = some (r1, r2) → r1 = [] ∧ r2 = 3 := fun h => by
                cases h
                exact ⟨rfl, rfl⟩
              have HG3 := HG2
              rw [if_neg h4] at HG3
              clear HG2 h4
              by_cases h5 : y.f4 ≤ y.f3
              · have g5 : decide (y.f4 ≤ y.f3) = true := decide_eq_true h5
                rw [if_pos h5] at HG3
                obtain ⟨rfl, rfl⟩ := fin HG3.out
                clear fin h5
                go_wp2
                go_ret2
                exact ⟨_, rfl, Kd.S_nil _ _ _ _ _, HI2.out.HB⟩
              have g5 : decide (y.f4 ≤ y.f3) = false := decide_eq_false h5
              rw [if_neg h5] at HG3
              by_cases h6 : (n : Int) ≤ y.f4
              · have g6 : decide ((n : Int) ≤ y.f4) = true := decide_eq_true h6
                rw [if_neg (by rw [okAt_iff]; omega)] at HG3
                obtain ⟨rfl, rfl⟩ := fin HG3.out
                clear fin h5 h6
                go_wp2
                go_ret2
                exact ⟨_, rfl, Kd.S_nil _ _ _ _ _, HI2.out.HB⟩
              have g6 : decide ((n : Int) ≤ y.f4) = false := decide_eq_false h6
              have t0 : 0 ≤ y.f4 := by omega
              have t1 : y.f4 < (n : Int) := by omega
              obtain ⟨x1, f1⟩ := Kd.R_celln false HI2.out.HS y.f4 t0 t1
              obtain ⟨b, hb⟩ : ∃ b, rdOf false (set.set y.f3.toNat true) y.f4 = b := ⟨_, rfl⟩
              rw [hb] at x1
              have HBB := Aside0.mk hb
              clear hb
              cases b with
              | true =>
                rw [if_neg (by rw [okAt_iff, HBB.out]; simp)] at HG3
                obtain ⟨rfl, rfl⟩ := fin HG3.out
                clear fin h5 h6
                go_wp2
                go_ret2
                exact ⟨_, rfl, Kd.S_nil _ _ _ _ _, HI2.out.HB⟩
              | false =>
                rw [if_pos (by rw [okAt_iff]; exact ⟨⟨t0, t1⟩, HBB.out⟩)] at HG3
                clear fin h5 h6
                go_upto_region 26 with (fail)
                have HI3 := Aside0.mk (HI2.out.set1 y.f4)
                have HX3 := Aside0.mk (HX2.out.heap (Below.heap_setCell _ ⟨s, y.f4.toNat, none⟩ (.bool true) B hBs))
                clear q0 q1 q2 q3 q4 q5 q6 q7 q8 q9 q10 x1 f1 HI2 HX2
                generalize World.setCell _ ⟨s, y.f4.toNat, none⟩ (.bool true) = w7 at HI3 HX3 ⊢
                obtain ⟨q0, q1, q2, q3, q4, q5, q6, q7, q8, q9, q10⟩ := HX3.out
                have hr9 : Kd.C k70 w7.drew A8 y.f2.f3.length y.f2.f3 := Kd.C_below hr8 (below_drew1 HI3.out.HB)
                have HI4 := Aside0.mk (HI3.out.below (below_drew1 (Below.refl _ _)))
                have HX4 := Aside0.mk (HX3.out.below (below_drew1 (Below.refl _ _)))
                have HCR : Aside0 (larchref05_CopyRet.f y.f2.f0 y.f2.f1 y.f2.f2 y.f2.f3 = some (y.f2.f0, y.f2.f1, y.f2.f2, y.f2.f3)) := ⟨by
                  unfold larchref05_CopyRet.f
                  simp only [Option.bind_some, List.length_nil, List.nil_append, Nat.zero_add]
                  rw [if_pos (by have := HPX.out; omega)]⟩
                have d0 : w7.drew.cell? ⟨B, 0, none⟩ = some (.int .i64 y.f0) := q0
                have d1 : w7.drew.cell? ⟨B, 1, none⟩ = some (.int .i64 y.f1.f0) := q1
                have d2 : w7.drew.cell? ⟨B, 2, none⟩ = some (.int .i64 y.f1.f1) := q2
                have d3 : w7.drew.cell? ⟨B, 3, none⟩ = some (.int .i64 y.f1.f2) := q3
                have d4 : w7.drew.cell? ⟨B, 4, none⟩ = some (.int .i64 y.f1.f3) := q4
                have d5 : w7.drew.cell? ⟨B, 5, none⟩ = some (.bool y.f2.f0) := q5
                have d6 : w7.drew.cell? ⟨B, 6, none⟩ = some (.int .i64 y.f2.f1) := q6
                have d7 : w7.drew.cell? ⟨B, 7, none⟩ = some (.int .i64 y.f2.f2) := q7
                have d8 : w7.drew.cell? ⟨B, 8, none⟩ = some (.slice A8 y.f2.f3.length c8) := q8
                have d9 : w7.drew.cell? ⟨B, 9, none⟩ = some (.int .i64 y.f3) := q9
                have d10 : w7.drew.cell? ⟨B, 10, none⟩ = some (.int .i64 y.f4) := q10
                refine start_ (n := 13) (S := fun w' => w'.cell? ⟨B, 0, none⟩ = some (.int .i64 y.f0) ∧ w'.cell? ⟨B, 1, none⟩ = some (.int .i64 y.f1.f0) ∧ w'.cell? ⟨B, 2, none⟩ = some (.int .i64 y.f1.f1) ∧ w'.cell? ⟨B, 3, none⟩ = some (.int .i64 y.f1.f2) ∧ w'.cell? ⟨B, 4, none⟩ = some (.int .i64 y.f1.f3) ∧ w'.cell? ⟨B, 5, none⟩ = some (.bool y.f2.f0) ∧ w'.cell? ⟨B, 6, none⟩ = some (.int .i64 y.f2.f1) ∧ w'.cell? ⟨B, 7, none⟩ = some (.int .i64 y.f2.f2) ∧ w'.cell? ⟨B, 8, none⟩ = some (.slice A8 y.f2.f3.length c8) ∧ w'.cell? ⟨B, 9, none⟩ = some (.int .i64 y.f3) ∧ w'.cell? ⟨B, 10, none⟩ = some (.int .i64 y.f4)) (ds := [12]) #[false, false, false, false, false, false, false, false, false, false, false, false, false] (by kernel_rfl) rfl rfl ⟨d0, d1, d2, d3, d4, d5, d6, d7, d8, d9, d10⟩ (fun hHeld => ?_); refine with_tabW evTab26 evBits26 (fun HT_ HW_ => ?_)
                generalize w7.drew = W2 at HI4 HX4 hr9 hHeld ⊢
                refine pure_ (i := 0) (N := some 129) (v := ?_) (a' := ?_) #[true, false, false, false, false, false, false, false, false, false, false, false, false] rfl rfl (any_of HT_.out (by kernel_rfl)) (fun _ _ _ h => h) (Or.inl ⟨by rfl, ?_⟩) ?_ ?_
                (rotate_left; (· intro w'; go_simp; with_reducible rfl); rotate_left; (· simp only [Act.put, List.setIfInBounds_toArray, List.set_cons_zero, List.set_cons_succ, i64_w, i32_w]; rfl))
                refine pure_ (i := 1) (N := some 130) (v := ?_) (a' := ?_) #[true, true, false, false, false, false, false, false, false, false, false, false, false] rfl rfl (any_of HT_.out (by kernel_rfl)) (fun _ _ _ h => h) (Or.inl ⟨by rfl, ?_⟩) ?_ ?_
                (rotate_left; (· intro w'; go_simp; with_reducible rfl); rotate_left; (· simp only [Act.put, List.setIfInBounds_toArray, List.set_cons_zero, List.set_cons_succ, i64_w, i32_w]; rfl))
                refine pure_ (i := 3) (N := some 132) (v := ?_) (a' := ?_) #[true, true, false, true, false, false, false, false, false, false, false, false, false] rfl rfl (any_of HT_.out (by kernel_rfl)) (fun _ _ _ h => h) (Or.inl ⟨by rfl, ?_⟩) ?_ ?_
                (rotate_left; (· intro w'; go_simp; with_reducible rfl); rotate_left; (· simp only [Act.put, List.setIfInBounds_toArray, List.set_cons_zero, List.set_cons_succ, i64_w, i32_w]; rfl))
                refine pure_ (i := 5) (N := some 134) (v := ?_) (a' := ?_) #[true, true, false, true, false, true, false, false, false, false, false, false, false] rfl rfl (any_of HT_.out (by kernel_rfl)) (fun _ _ _ h => h) (Or.inl ⟨by rfl, ?_⟩) ?_ ?_
                (rotate_left; (· intro w'; go_simp; with_reducible rfl); rotate_left; (· simp only [Act.put, List.setIfInBounds_toArray, List.set_cons_zero, List.set_cons_succ, i64_w, i32_w]; rfl))
                refine pure_ (i := 7) (N := some 136) (v := ?_) (a' := ?_) #[true, true, false, true, false, true, false, true, false, false, false, false, false] rfl rfl (any_of HT_.out (by kernel_rfl)) (fun _ _ _ h => h) (Or.inl ⟨by rfl, ?_⟩) ?_ ?_
                (rotate_left; (· intro w'; go_simp; with_reducible rfl); rotate_left; (· simp only [Act.put, List.setIfInBounds_toArray, List.set_cons_zero, List.set_cons_succ, i64_w, i32_w]; rfl))
                refine take_ (i := 2) (N := some 131) (v := ?_) (a' := ?_) #[true, true, true, true, false, true, false, true, false, false, false, false, false] rfl rfl (take_ofW HT_.out HW_.out (by kernel_rfl)) (fun _ _ _ h => h) (Or.inl ⟨by rfl, ?_⟩) hHeld ?_ ?_
                (rotate_left; (· rintro w' ⟨s0, s1, s2, s3, s4, s5, s6, s7, s8, s9, s10⟩; go_simp; with_reducible rfl); rotate_left; (· simp only [Act.put, List.setIfInBounds_toArray, List.set_cons_zero, List.set_cons_succ, i64_w, i32_w]; rfl))
                refine take_ (i := 4) (N := some 133) (v := ?_) (a' := ?_) #[true, true, true, true, true, true, false, true, false, false, false, false, false] rfl rfl (take_ofW HT_.out HW_.out (by kernel_rfl)) (fun _ _ _ h => h) (Or.inl ⟨by rfl, ?_⟩) hHeld ?_ ?_
                (rotate_left; (· rintro w' ⟨s0, s1, s2, s3, s4, s5, s6, s7, s8, s9, s10⟩; go_simp; with_reducible rfl); rotate_left; (· simp only [Act.put, List.setIfInBounds_toArray, List.set_cons_zero, List.set_cons_succ, i64_w, i32_w]; rfl))
                refine take_ (i := 6) (N := some 135) (v := ?_) (a' := ?_) #[true, true, true, true, true, true, true, true, false, false, false, false, false] rfl rfl (take_ofW HT_.out HW_.out (by kernel_rfl)) (fun _ _ _ h => h) (Or.inl ⟨by rfl, ?_⟩) hHeld ?_ ?_
                (rotate_left; (· rintro w' ⟨s0, s1, s2, s3, s4, s5, s6, s7, s8, s9, s10⟩; go_simp; with_reducible rfl); rotate_left; (· simp only [Act.put, List.setIfInBounds_toArray, List.set_cons_zero, List.set_cons_succ, i64_w, i32_w]; rfl))
                refine take_ (i := 8) (N := some 137) (v := ?_) (a' := ?_) #[true, true, true, true, true, true, true, true, true, false, false, false, false] rfl rfl (take_ofW HT_.out HW_.out (by kernel_rfl)) (fun _ _ _ h => h) (Or.inl ⟨by rfl, ?_⟩) hHeld ?_ ?_
                (rotate_left; (· rintro w' ⟨s0, s1, s2, s3, s4, s5, s6, s7, s8, s9, s10⟩; go_simp; with_reducible rfl); rotate_left; (· simp only [Act.put, List.setIfInBounds_toArray, List.set_cons_zero, List.set_cons_succ, i64_w, i32_w]; rfl))
                refine one_ (i := 9) (N := some 138) #[true, true, true, true, true, true, true, true, true, true, false, false, false] rfl rfl (one_of HT_.out (by kernel_rfl)) (by decide) (fun K hK => ?_)
                refine goes_ Try.func65 (by kernel_rfl) rfl #[.agg #[.bool y.f2.f0, .int .i64 y.f2.f1, .int .i64 y.f2.f2, .slice A8 y.f2.f3.length c8]] (by rfl) rfl rfl (by (try simp only [List.map_toArray, List.map_cons, List.map_nil]); first | done | rfl | (simp only [List.length_drop, List.length_take]; rfl)) ?_
                refine (larchref05_CopyRet.calls y.f2.f0 y.f2.f1 y.f2.f2 A8 c8 y.f2.f3 y.f2.f0 y.f2.f1 y.f2.f2 y.f2.f3 _ hr9 hc8 HCR.out).mono ?_
                rintro e w8 ⟨v9, rfl, ho9, hb9⟩
                obtain ⟨A9, c9, rfl⟩ := Kd.R_slice ho9
                have HI5 := Aside0.mk (HI4.out.below hb9)
                have HO9 := Aside0.mk ho9
                have HOS := Aside0.mk (Kd.S_mono (Kd.S_old HI4.out.HO hb9) (fun _ hk => hk.2))
                obtain ⟨hc, hf, -, -⟩ := S_put67 (retE (unc y)) HOS.out HO9.out HI4.out.HB.size y.f4 t0 t1
                obtain ⟨u0, c20⟩ := hc 0 (by decide)
                have z0 := hf 0
                obtain ⟨u1, c21⟩ := hc 1 (by decide)
                have z1 := hf 1
                obtain ⟨u2, c22⟩ := hc 2 (by decide)
                have z2 := hf 2
                obtain ⟨u3, c23⟩ := hc 3 (by decide)
                have z3 := hf 3
                obtain ⟨u4, c24⟩ := hc 4 (by decide)
                have z4 := hf 4
                obtain ⟨u5, c25⟩ := hc 5 (by decide)
                have z5 := hf 5
                obtain ⟨u6, c26⟩ := hc 6 (by decide)
                have z6 := hf 6
                obtain ⟨u7, c27⟩ := hc 7 (by decide)
                have z7 := hf 7
                obtain ⟨u8, c28⟩ := hc 8 (by decide)
                have z8 := hf 8
                obtain ⟨u9, c29⟩ := hc 9 (by decide)
                have z9 := hf 9
                simp only [Nat.add_zero] at c20 z0
                clear hc hf
                have p102 := eq_true t0
                have q102 := eq_true t1
                refine ⟨_, rfl, ?_⟩
                refine hK.out _ _ ⟨pw_cell_below hb9 hHeld.1, pw_cell_below hb9 hHeld.2.1, pw_cell_below hb9 hHeld.2.2.1, pw_cell_below hb9 hHeld.2.2.2.1, pw_cell_below hb9 hHeld.2.2.2.2.1, pw_cell_below hb9 hHeld.2.2.2.2.2.1, pw_cell_below hb9 hHeld.2.2.2.2.2.2.1, pw_cell_below hb9 hHeld.2.2.2.2.2.2.2.1, pw_cell_below hb9 hHeld.2.2.2.2.2.2.2.2.1, pw_cell_below hb9 hHeld.2.2.2.2.2.2.2.2.2.1, pw_cell_below hb9 hHeld.2.2.2.2.2.2.2.2.2.2⟩ (fun hHeld => ?_)
                clear hK K
                refine norm_ (a' := ?_) ?_ ?_
                rotate_left
                · show Act.put _ (some 138) _ = _
                  simp only [Act.put, List.setIfInBounds_toArray, List.set_cons_zero, List.set_cons_succ, i64_w, i32_w]
                  rfl
                refine pure_ (i := 10) (N := some 139) (v := ?_) (a' := ?_) #[true, true, true, true, true, true, true, true, true, true, true, false, false] rfl rfl (any_of HT_.out (by kernel_rfl)) (fun _ _ _ h => h) (Or.inl ⟨by rfl, ?_⟩) ?_ ?_
                (rotate_left; (· intro w'; go_simp; with_reducible rfl); rotate_left; (· simp only [Act.put, List.setIfInBounds_toArray, List.set_cons_zero, List.set_cons_succ, i64_w, i32_w]; rfl))
                refine pure_ (i := 11) (N := some 140) (v := ?_) (a' := ?_) #[true, true, true, true, true, true, true, true, true, true, true, true, false] rfl rfl (any_of HT_.out (by kernel_rfl)) (fun _ _ _ h => h) (Or.inl ⟨by rfl, ?_⟩) ?_ ?_
                (rotate_left; (· intro w'; go_simp; with_reducible rfl); rotate_left; (· simp only [Act.put, List.setIfInBounds_toArray, List.set_cons_zero, List.set_cons_succ, i64_w, i32_w]; rfl))
                refine last_ (i := 12) (N := none) #[true, true, true, true, true, true, true, true, true, true, true, true, true] rfl rfl (one_of HT_.out (by kernel_rfl)) (by decide) (fun K hK => ?_)
                refine skip_ (w1 := ?_) (by rfl) rfl ?_ ?_
                rotate_left
                · go_simp
                  rfl
                refine hK.out _ _ ?_
                clear hK K
                refine done_ (done_of HT_.out (by kernel_rfl)) ?_
                change Exit.inBlock _ _ _ _ (w8.setCells g (y.f4.toNat * 10) (c67 (retE (unc y)) A9 c9))
                obtain ⟨p1, -⟩ := HI5.out.put y.f4 t0 t1 (retE (unc y)) HO9.out HI4.out.HB.size HOS.out
                have HI6 := Aside0.mk p1
                clear p1 c20 c21 c22 c23 c24 c25 c26 c27 c28 c29 z0 z1 z2 z3 z4 z5 z6 z7 z8 z9
                generalize w8.setCells g (y.f4.toNat * 10) (c67 (retE (unc y)) A9 c9) = w9 at HI6 ⊢
                go_wp2
                go_roundw
                case rel => exact ⟨j + 1, y.f3, _, _, by go_num, by omega, HG3, ⟨by rw [if_neg (by omega), Nat.add_sub_cancel, ← HY.out], HL3.out⟩, HI6.out⟩
                case measure => simp [intOf]; omega
        · have hg := HG.out
          rw [show l0.length - j = 0 by omega] at hg
          simp only [evGo, refEv] at hg
          obtain ⟨hno, hcg, hC⟩ := Kd.S_reads' hI.HO
          clear HG
          obtain ⟨e, he, hg2⟩ := Option.bind_eq_some_iff.mp hg
          clear hg
          have HE := Aside0.mk he
          clear he
          have HNN2 := Aside0.mk HNN.out
          clear HNN HF hsg
          subst hno
          by_cases hez : e = 0
          rotate_left
          · rw [if_neg hez] at hg2
            cases hg2
            have hez' : (r2 != 0) = true := by simpa using hez
            go_wp2_with (go_at_call 37; refine (larchref05_Check.calls k (some ⟨g, 0, none⟩) cg out r2 wr hC hcg HE.out).mono ?_; rintro e_ w2 ⟨rfl, hb2⟩; have HI2 := Aside0.mk (hI.below hb2); clear hb2)
            go_ret2
            exact ⟨_, rfl, Kd.S_nil _ _ _ _ _, HI2.out.HB⟩
          subst hez
          rw [if_pos rfl] at hg2
          obtain ⟨back, hbk, hg3⟩ := Option.bind_eq_some_iff.mp hg2
          clear hg2
          have HBK := Aside0.mk hbk
          clear hbk
          obtain ⟨b, hb, hg4⟩ := Option.bind_eq_some_iff.mp hg3
          clear hg3
          have HCMP := Aside0.mk hb
          have HRES := Aside0.mk hg4
          clear hb hg4
          go_wp2_with (first
            | (go_at_call 37; refine (larchref05_Check.calls k (some ⟨g, 0, none⟩) cg out 0 wr hC hcg HE.out).mono ?_; rintro e_ w2 ⟨rfl, hb2⟩; have HI2 := Aside0.mk (hI.below hb2); clear hb2)
            | (go_at_call 64; refine (larchref05_calls.calls k (some ⟨g, 0, none⟩) cg out back w2 (Kd.S_reads' HI2.out.HO).2.2 hcg HBK.out).mono ?_; rintro e_ w3 ⟨v3, rfl, ho3, hb3⟩; obtain ⟨A3, c3, rfl⟩ := Kd.S_slice ho3; have HI3 := Aside0.mk (HI2.out.below hb3); have HC3 := Aside0.mk (Kd.S_reads' ho3).2.2; have hc3 := (Kd.S_reads' ho3).2.1; clear hb3 ho3))
          go_loopw [12] (fun v12 W => ∃ (j : Nat), v12 = .int .i64 (j : Int) ∧ j ≤ l0.length ∧ Aside0 (cmpGo l0 back (l0.length - j) j = some b) ∧ Aside0 (Kd.C k76 W A3 back.length back) ∧ RI w out.length s g cs cg set out W) (fun v12 _ => l0.length - (intOf v12).toNat)
          case atStart => exact ⟨0, rfl, Nat.zero_le _, HCMP, HC3, HI3.out⟩
          case round =>
            clear HCMP HC3 HI3 HI2 hI hC
            obtain ⟨j, rfl, hj, HG, HC, hI⟩ := hrel
            by_cases hlt : j < l0.length
            · have hg := HG.out
              rw [show l0.length - j = (l0.length - (j + 1)) + 1 by omega] at hg
              simp only [cmpGo] at hg
              by_cases hjb : j < back.length
              rotate_left
              · rw [if_neg hjb] at hg; cases hg
              rw [if_pos hjb] at hg
              obtain ⟨y, hy⟩ : ∃ y, y = J76 l0 (j : Int) := ⟨_, rfl⟩
              obtain ⟨x, hx⟩ : ∃ x, x = J76 back (j : Int) := ⟨_, rfl⟩
              rw [← hy, ← hx] at hg
              obtain ⟨ad2, A8, c8, ea, -, -, -, -, -, -, -, -, -, y9, y10, -, -⟩ := at_T76 (Kd.C_below hr0 hI.HB) (j : Int) (by omega) (by omega)
              cases ea
              obtain ⟨ad3, B8, d8, ea, -, -, -, -, -, -, -, -, -, z9, z10, -, -⟩ := at_T76 HC.out (j : Int) (by omega) (by omega)
              cases ea
              rw [← hy] at y9 y10
              rw [← hx] at z9 z10
              simp only [Int.toNat_natCast] at y9 y10 z9 z10
              clear hy hx HG
              have b1 : (0 : Int) ≤ (j : Int) := by omega
              have b2 : (j : Int) < (l0.length : Int) := by omega
              have b3 : (j : Int) < (back.length : Int) := by omega
              by_cases h3 : x.f3 = y.f3
              rotate_left
              · rw [if_neg h3] at hg
                obtain rfl : false = b := Option.some.inj hg
                have hr := HRES.out
                rw [if_neg (by decide)] at hr
                cases hr
                have g3 : (x.f3 != y.f3) = true := by simpa using h3
                clear h3
                go_wp2
                go_region
                (try go_wp2)
                go_ret2
                exact ⟨_, rfl, Kd.S_nil _ _ _ _ _, below_drew1 hI.HB⟩
              rw [if_pos h3] at hg
              rw [h3] at z9
              by_cases h4 : x.f4 = y.f4
              rotate_left
              · rw [if_neg h4] at hg
                obtain rfl : false = b := Option.some.inj hg
                have hr := HRES.out
                rw [if_neg (by decide)] at hr
                cases hr
                have g4 : (x.f4 != y.f4) = true := by simpa using h4
                clear h4 h3
                go_wp2
                go_region
                (try go_wp2)
                go_ret2
                exact ⟨_, rfl, Kd.S_nil _ _ _ _ _, below_drew1 hI.HB⟩
              rw [if_pos h4] at hg
              rw [h4] at z10
              have HG2 := Aside0.mk hg
              clear hg h3 h4
              go_wp2
              go_region
              (try go_wp2)
              go_roundw
              case rel => exact ⟨j + 1, by go_num, by omega, HG2, ⟨Kd.C_below HC.out (below_drew1 (Below.refl _ _))⟩, hI.below (below_drew1 (Below.refl _ _))⟩
              case measure => simp [intOf]; omega
            · have hg := HG.out
              rw [show l0.length - j = 0 by omega] at hg
              simp only [cmpGo, Option.some.injEq] at hg
              subst hg
              have hr := HRES.out
              rw [if_pos rfl] at hr
              cases hr
              go_wp2
              go_ret2
              exact ⟨_, rfl, hI.HO, hI.HB⟩
end Go.Proofs.Ytagdkmcgepidoaa.P
