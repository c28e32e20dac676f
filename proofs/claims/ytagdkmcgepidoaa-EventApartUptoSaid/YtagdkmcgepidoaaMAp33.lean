/- P.eventApart_holds, part 34 of 41: the contracts of the Go functions that the law calls, its own walk, and its plain law, for every input that the statement speaks of. -/
import Derived.Test.YtagdkmcgepidoaaMAp26
import Derived.Test.YtagdkmcgepidoaaMAp32
import Derived.Test.YtagdkmcgepidoaaMAp13
import Derived.Deep.RegionHeld3
import Derived.Test.YtagdkmcgepidoaaMAp8
import Derived.Test.YtagdkmcgepidoaaMAp12
set_option linter.unusedVariables false
set_option linter.unusedSimpArgs false
/- E14 -/
namespace Go.Proofs.Ytagdkmcgepidoaa.P
open Go.RowKit Go.Proofs.YtagdkmcgepidoaaW.PrintWords Go.Proofs.YtagdkmcgepidoaaW.PrintLast Go.Proofs.YtagdkmcgepidoaaW.PrintMore
def twN (l : List S38) : Nat := (l.filter fun c => !(c.f4 == -1)).length
def evNum (l : List S38) : Nat := l.length + twN l
def invE (c : S38) : S67 := ⟨c.f0, false, c.f1, z36⟩
def retE (c : S38) : S67 := ⟨c.f0, true, c.f1, c.f2⟩
def okAt (n : Nat) (set : List Bool) (p : Int) : Bool := decide (0 ≤ p) && (decide (p < (n : Int)) && !(rdOf false set p))
theorem okAt_iff (n : Nat) (set : List Bool) (p : Int) : okAt n set p = true ↔ ((0 ≤ p ∧ p < (n : Int)) ∧ rdOf false set p = false) := by
  unfold okAt
  simp [and_assoc]
def evGo (cs : List S38) (n : Nat) : Nat → Nat → Int → List Bool → List S67 → Option (List S67)
  | 0, _, _, _, out => some out
  | d + 1, j, fr, set, out =>
    if (J38 cs (j : Int)).f3 ≤ fr then none
    else if okAt n set (J38 cs (j : Int)).f3 = true then
      (if (J38 cs (j : Int)).f4 = -1 then
        (if bareB (J38 cs (j : Int)).f2 = true then evGo cs n d (j + 1) (J38 cs (j : Int)).f3 (set.set (J38 cs (j : Int)).f3.toNat true) (out.set (J38 cs (j : Int)).f3.toNat (invE (J38 cs (j : Int)))) else none)
      else if (J38 cs (j : Int)).f4 ≤ (J38 cs (j : Int)).f3 then none
      else if okAt n (set.set (J38 cs (j : Int)).f3.toNat true) (J38 cs (j : Int)).f4 = true then
        evGo cs n d (j + 1) (J38 cs (j : Int)).f3 ((set.set (J38 cs (j : Int)).f3.toNat true).set (J38 cs (j : Int)).f4.toNat true) ((out.set (J38 cs (j : Int)).f3.toNat (invE (J38 cs (j : Int)))).set (J38 cs (j : Int)).f4.toNat (retE (J38 cs (j : Int))))
      else none)
    else none
def evBack (l0 : List S38) : Option (List S67) → Option (List S67 × Int)
  | none => some ([], 3)
  | some out => if evNum l0 > 100000 then some ([], 3) else (event_Check.f out).bind fun e => if e = 0 then ((event_calls.f out).bind fun back => if ∀ c ∈ back, c.f2.f3.length ≤ 1048576 then (if eqcB back l0 = true then some (out, 0) else some ([], 3)) else none) else some ([], 3)
def event_Events.f (l0 : List S38) : Option (List S67 × Int) := if l0.length > 100000 then some ([], 2) else if ∀ c ∈ l0, c.f2.f3.length ≤ 1048576 then evBack l0 (evGo l0 (evNum l0) l0.length 0 (-1) (List.replicate (evNum l0) false) (List.replicate (evNum l0) z67)) else none
theorem tw_take (cs : List S38) (j : Nat) (h : j < cs.length) : twN (cs.take (j + 1)) = twN (cs.take j) + (if (J38 cs (j : Int)).f4 = -1 then 0 else 1) := by
  have e : cs[j] = J38 cs (j : Int) := by
    unfold J38
    rw [Int.toNat_natCast, List.getD_eq_getElem?_getD, List.getElem?_eq_getElem h]
    rfl
  unfold twN
  rw [List.take_succ_eq_append_getElem h, List.filter_append, List.length_append, e]
  congr 1
  by_cases hc : (J38 cs (j : Int)).f4 = -1
  · simp [hc]
  · simp [hc]
theorem tw_le (l : List S38) : twN l ≤ l.length := List.length_filter_le _ _
theorem cell_heap {w w' : World} {k j : Nat} {v : Value} (h : w'.heap[k]? = w.heap[k]?) (hc : w.cell? ⟨k, j, none⟩ = some v) : w'.cell? ⟨k, j, none⟩ = some v := by
  rw [← hc]
  unfold World.cell?
  simp only [h]
theorem alloc_lt (W : World) (o : Obj) : W.heap.size < (W.alloc o).heap.size := (Array.getElem?_eq_some_iff.1 (blk_new W o)).1
theorem q_lt {w w' : World} {k j : Nat} {v : Value} (hc : w.cell? ⟨k, j, none⟩ = some v) (h : w'.heap[k]? = w.heap[k]?) : k < w'.heap.size := by
  have h1 := cell_heap h hc
  rcases Nat.lt_or_ge k w'.heap.size with h2 | h2
  · exact h2
  · unfold World.cell? at h1
    simp [Array.getElem?_eq_none h2] at h1
theorem own_form {w : World} {base e size n : Nat} {v : Value} {xs : List Value} (h : w.ownsRow base e size v n xs) {b : Nat} (hb : v.ownBlock = some b) : ∃ cap, v = .slice (some ⟨b, 0, none⟩) n cap := by
  rcases h.2 with ⟨rfl, _⟩ | ⟨g, cap, cur, rfl, hg, hh, r⟩
  · simp [Value.ownBlock] at hb
  · have : g = b := by simpa [Value.ownBlock] using hb
    subst this
    exact ⟨cap, rfl⟩
structure EvI (w : World) (n gn gs go s g cs cg : Nat) (set : List Bool) (out : List S67) (W : World) : Prop where
  kn : W.cell? ⟨gn, 0, none⟩ = some (.int .i64 (n : Int))
  ks : W.cell? ⟨gs, 0, none⟩ = some (.slice (some ⟨s, 0, none⟩) n cs)
  ko : W.cell? ⟨go, 0, none⟩ = some (.slice (some ⟨g, 0, none⟩) n cg)
  HS : Kd.R Kd.bool 4 W w.heap.size (fun _ => True) (.slice (some ⟨s, 0, none⟩) n cs) set
  HO : Kd.S k67 67 W w.heap.size (fun _ => True) (.slice (some ⟨g, 0, none⟩) n cg) out
  HB : Below w.heap.size w W
  l1 : gn < W.heap.size
  l2 : gs < W.heap.size
  l3 : go < W.heap.size
structure EvN (gn gs go s g : Nat) : Prop where
  a : gn ≠ s
  b : gn ≠ g
  c : gs ≠ s
  d : gs ≠ g
  e : go ≠ s
  f : go ≠ g
theorem EvI.below {w : World} {n gn gs go s g cs cg : Nat} {set : List Bool} {out : List S67} {W W' : World} (h : EvI w n gn gs go s g cs cg set out W) (hb : Below W.heap.size W W') : EvI w n gn gs go s g cs cg set out W' :=
  ⟨pw_cell_below hb h.kn, pw_cell_below hb h.ks, pw_cell_below hb h.ko, Kd.R_below h.HS hb, Kd.S_below h.HO hb, below_step h.HB hb, Nat.lt_of_lt_of_le h.l1 hb.size, Nat.lt_of_lt_of_le h.l2 hb.size, Nat.lt_of_lt_of_le h.l3 hb.size⟩
structure PutP (p : Int) (x : S67) (w : World) (n gn gs go s g cs cg : Nat) (set : List Bool) (out : List S67) (W : World) (e : Ending) (w' : World) : Prop where
  yes : okAt n set p = true → e = .returned (.bool true) ∧ EvI w n gn gs go s g cs cg (set.set p.toNat true) (out.set p.toNat x) w' ∧ ∀ k, k < W.heap.size → k ≠ s → k ≠ g → w'.heap[k]? = W.heap[k]?
  no : okAt n set p = false → e = .returned (.bool false) ∧ EvI w n gn gs go s g cs cg set out w' ∧ Below W.heap.size W w'
theorem put_ev {w : World} {n gn gs go s g cs cg : Nat} {set : List Bool} {out : List S67} {W : World} (hI : EvI w n gn gs go s g cs cg set out W) (hN : EvN gn gs go s g) (p : Int) (x : S67) (A9 : Option Addr) (c9 N : Nat) (hv : k70.R 70 W N (fun _ => True) (.slice A9 x.f3.f3.length c9) x.f3.f3) (hNl : w.heap.size ≤ N) (hO : Kd.S k67 67 W w.heap.size (fun k => k < N) (.slice (some ⟨g, 0, none⟩) n cg) out) :
    Calls Try.prog 66 #[.int .i64 p, agg67 x A9 c9, .pointer (some ⟨gn, 0, none⟩), .pointer (some ⟨gs, 0, none⟩), .pointer (some ⟨go, 0, none⟩)] W (PutP p x w n gn gs go s g cs cg set out W) :=
  (put_calls n p x A9 c9 gn gs go s g cs cg w.heap.size N set out W hI.kn hI.ks hI.ko hI.HS hO hv hNl hI.HB.size hN.e).mono fun e w' hp => by
    refine ⟨fun h => ?_, fun h => ?_⟩
    · obtain ⟨he, h1, h2, h3, h4⟩ := hp.yes ((okAt_iff n set p).1 h)
      exact ⟨he, ⟨cell_heap (h3 gn hI.l1 hN.a hN.b) hI.kn, cell_heap (h3 gs hI.l2 hN.c hN.d) hI.ks, cell_heap (h3 go hI.l3 hN.e hN.f) hI.ko, h1, h2, hI.HB.trans h4, Nat.lt_of_lt_of_le hI.l1 h4.size, Nat.lt_of_lt_of_le hI.l2 h4.size, Nat.lt_of_lt_of_le hI.l3 h4.size⟩, h3⟩
    · obtain ⟨he, h4⟩ := hp.no (fun hc => by rw [(okAt_iff n set p).2 hc] at h; cases h)
      exact ⟨he, hI.below h4, h4⟩
set_option maxHeartbeats 8000000 in
set_option maxRecDepth 100000 in
theorem event_Events.calls (A0 : Option Addr) (c0 : Nat) (l0 : List (S38)) (r1 : List (S67)) (r2 : Int) (w : World) (hr0 : Kd.C k38 w A0 l0.length l0) (hc0 : l0.length ≤ c0) (h : event_Events.f l0 = some (r1, r2)) :
    Calls Try.prog 41 #[.slice A0 l0.length c0] w fun e w' => ∃ v0_ : Value, e = .returned (.tuple #[v0_, .int .i64 r2]) ∧ Kd.S k67 67 w' w.heap.size (fun _ => True) v0_ r1 ∧ Below w.heap.size w w' := by
  have hu67 := Try.underlying67
  have hu38 := Try.underlying38
  have hu36 := Try.underlying36
  have hu33 := Try.underlying33
  have hmx : l0.length ≤ 9223372036854775807 := hr0.2.1
  unfold event_Events.f at h
  by_cases hb : l0.length > 100000
  · rw [if_pos hb] at h
    cases h
    have hb1 : decide ((100000 : Int) < (l0.length : Int)) = true := decide_eq_true (by omega)
    go_enter Try.func41, Try.ntmps41
    go_wp2
    go_ret2
    exact ⟨_, rfl, Kd.S_nil _ _ _ _ _, Below.refl _ _⟩
  rw [if_neg hb] at h
  by_cases hps : ∀ c ∈ l0, c.f2.f3.length ≤ 1048576
  rotate_left
  · rw [if_neg hps] at h; cases h
  rw [if_pos hps] at h
  have hb1 : decide ((100000 : Int) < (l0.length : Int)) = false := decide_eq_false (by omega)
  have HPS := Aside0.mk hps
  have HR := Aside0.mk h
  clear h hps
  go_enter Try.func41, Try.ntmps41
  go_wp2
  go_loopw [20] (fun v20 W => ∃ (j : Nat), v20 = .int .i64 (j : Int) ∧ j ≤ l0.length ∧ Aside0 (Kd.R (Kd.int .i64) 3 W w.heap.size (fun _ => True) (.slice (some ⟨w.heap.size, 0, none⟩) 1 1) [((l0.length + twN (l0.take j) : Nat) : Int)]) ∧ Aside0 (Below w.heap.size w W)) (fun v20 _ => l0.length - (intOf v20).toNat)
  case atStart => exact ⟨0, rfl, Nat.zero_le _, ⟨by
      have := R_array0 (Kd.int .i64) (W := w) (base := w.heap.size) (Nat.le_refl _) 3 (.int .i64 (l0.length : Int)) 1 (l0.length : Int) rfl (by decide) #[.int .i64 (l0.length : Int)] (by show #[Value.int .i64 (l0.length : Int)] = Builtin.zeroCells #[Value.int .i64 (l0.length : Int)] 1; first | rfl | kernel_rfl | simp [Builtin.zeroCells, Array.range]) (fun _ => rfl) (by decide)
      simpa [twN] using this⟩, ⟨below_alloc (Below.refl _ _) _⟩⟩
  case round =>
    obtain ⟨j, rfl, hj, HO, HB⟩ := hrel
    by_cases hlt : j < l0.length
    · obtain ⟨ad2, A8, c8, ea, y0, y1, y2, y3, y4, y5, y6, y7, y8, y9, y10, -, -⟩ := at_T38 (Kd.C_below hr0 HB.out) (j : Int) (by omega) (by omega)
      cases ea
      obtain ⟨n, hn⟩ : ∃ n, n = J38 l0 (j : Int) := ⟨_, rfl⟩
      rw [← hn] at y0 y1 y2 y3 y4 y5 y6 y7 y8 y9 y10
      simp only [Int.toNat_natCast] at y0 y1 y2 y3 y4 y5 y6 y7 y8 y9 y10
      obtain ⟨m, hm⟩ : ∃ m, m = l0.length + twN (l0.take j) := ⟨_, rfl⟩
      rw [← hm] at HO
      have hmle : m ≤ 200000 := by have := tw_le (l0.take j); rw [List.length_take] at this; omega
      have hm2 : l0.length + twN (l0.take (j + 1)) = m + (if n.f4 = -1 then 0 else 1) := by rw [tw_take l0 j hlt, hm, hn]; omega
      have HM2 := Aside0.mk hm2
      have ca : wr.cell? ⟨w.heap.size, 0, none⟩ = some (.int .i64 (m : Int)) := (Kd.R_celln (0 : Int) HO.out 0 (by decide) (by decide)).1
      have fa : wr.frozen? ⟨w.heap.size, 0, none⟩ = false := (Kd.R_celln (0 : Int) HO.out 0 (by decide) (by decide)).2
      have hlw : w.heap.size < wr.heap.size := Kd.R_lt HO.out _ (by simp [Value.ownBlock])
      clear hn hm hm2
      by_cases h4 : n.f4 = -1
      · rw [if_pos h4] at HM2
        go_wp2
        go_roundw
        case rel => exact ⟨j + 1, by go_num, by omega, ⟨by rw [HM2.out]; exact Kd.R_alloc HO.out _⟩, ⟨below_alloc HB.out _⟩⟩
        case measure => simp [intOf]; omega
      · rw [if_neg h4] at HM2
        have h4' : (n.f4 != -1) = true := by simpa using h4
        go_wp2
        go_roundw
        case rel => exact ⟨j + 1, by go_num, by omega, ⟨by
            rw [HM2.out]
            have := Kd.R_putn HO.out 0 ((m + 1 : Nat) : Int)
            exact Kd.R_alloc this _⟩, ⟨below_alloc (below_set (j := 0) (v := .int .i64 ((m : Int) + 1)) HB.out (Nat.le_refl _)) _⟩⟩
        case measure => simp [intOf]; omega
    · obtain rfl : j = l0.length := by omega
      rw [List.take_length, show l0.length + twN l0 = evNum l0 from rfl] at HO
      obtain ⟨n, hn⟩ : ∃ n, n = evNum l0 := ⟨_, rfl⟩
      rw [← hn] at HO
      have hnle : n ≤ 200000 := by have := tw_le l0; rw [hn]; unfold evNum; omega
      have ca : wr.cell? ⟨w.heap.size, 0, none⟩ = some (.int .i64 (n : Int)) := (Kd.R_celln (0 : Int) HO.out 0 (by decide) (by decide)).1
      have hlw : w.heap.size < wr.heap.size := Kd.R_lt HO.out _ (by simp [Value.ownBlock])
      have HNN := Aside0.mk hn
      clear hn
      go_wp2_with (first
        | ((with_reducible refine gate_dst (N := 31) rfl ?_); (refine Kd.S_make k67 (w0 := w) w.heap.size 67 rfl (N := 31) rfl 22 _ _ rfl (n : Int) rfl rfl Try.underlying22 (.agg #[(.int .i64 0), (.bool false), (.int .i64 0), (.int .i64 0), (.int .i64 0), (.int .i64 0), (.bool false), (.int .i64 0), (.int .i64 0), (.slice none 0 0)]) 96 info67 rfl (by decide) (by omega) z67 (ok := fun _ => True) (okp := fun _ => False) (k67_mkM _ _ _ z67 (Kd.R_nil _ _ _ _ _)) (fun _ hk => hk.elim) trivial (by omega) (by omega) HB.out HB.out.size ?_; intro v7 w7 ho7 hb7 hg7 hat7; obtain ⟨g, hgo, hgl⟩ := hat7; obtain ⟨i7, hi7⟩ := Kd.S_own ho7; obtain ⟨cg, rfl⟩ := own_form hi7 hgo; rw [Int.toNat_natCast, List.length_replicate] at ho7; rw [Int.toNat_natCast, List.length_replicate]; have c7 : w7.cell? ⟨w.heap.size, 0, none⟩ = some (.int .i64 (n : Int)) := cell_heap (hg7.block _ hlw (by simp)) ca; have HO7 := Aside0.mk ho7; have HB7 := Aside0.mk hb7; have hgw : g < w7.heap.size := Kd.S_lt ho7 g (by simp [Value.ownBlock]); have hw7 := hg7.size; have d7 := pw_cell_below (below_alloc (Below.refl w7.heap.size w7) (.cells #[.slice (some ⟨g, 0, none⟩) n cg] 22)) c7; have e7 : (w7.alloc (.cells #[.slice (some ⟨g, 0, none⟩) n cg] 22)).cell? ⟨w7.heap.size, 0, none⟩ = some (.slice (some ⟨g, 0, none⟩) n cg) := (blk_cell (blk_new w7 (.cells #[.slice (some ⟨g, 0, none⟩) n cg] 22)) 0).trans rfl; have hlw7 : w7.heap.size < (w7.alloc (.cells #[.slice (some ⟨g, 0, none⟩) n cg] 22)).heap.size := alloc_lt _ _; clear ho7 hb7 hg7 hi7 hgo))
        | ((with_reducible refine gate_dst (N := 33) rfl ?_); (refine Kd.R_make Kd.bool (w0 := w) w.heap.size 4 rfl (N := 33) rfl 31 _ _ rfl (n : Int) rfl rfl Try.underlying31 (.bool false) 1 info4 rfl (by decide) (by omega) false (ok := fun _ => True) (okp := fun _ => False) rfl (fun _ hk => hk.elim) trivial (by omega) (by omega) (below_alloc HB7.out _) (below_alloc HB7.out _).size ?_; intro v8 w8 ho8 hb8 hg8 hat8; obtain ⟨s, hso, hsl⟩ := hat8; obtain ⟨i8, hi8⟩ := Kd.R_own ho8; obtain ⟨cs, rfl⟩ := own_form hi8 hso; rw [Int.toNat_natCast, List.length_replicate] at ho8; rw [Int.toNat_natCast, List.length_replicate]; have c8 : w8.cell? ⟨w.heap.size, 0, none⟩ = some (.int .i64 (n : Int)) := cell_heap (hg8.block _ (by omega) (by simp)) d7; have e8 : w8.cell? ⟨w7.heap.size, 0, none⟩ = some (.slice (some ⟨g, 0, none⟩) n cg) := cell_heap (hg8.block _ hlw7 (by simp)) e7; have HS8 := Aside0.mk ho8; have HB8 := Aside0.mk hb8; have HO8 := Aside0.mk (Kd.S_grown (Kd.S_alloc HO7.out _) hg8 (fun _ _ => by simp)); have hsw : s < w8.heap.size := Kd.R_lt ho8 s (by simp [Value.ownBlock]); have hw8 := hg8.size; clear ho8 hb8 hg8 hi8 hso d7 e7 c7)))
      have hI : EvI w n w.heap.size w8.heap.size w7.heap.size s g cs cg (List.replicate n false) (List.replicate n z67) (w8.alloc (.cells #[.slice (some ⟨s, 0, none⟩) n cs] 31)) :=
        ⟨pw_cell_below (below_alloc (Below.refl _ _) _) c8, (blk_cell (blk_new w8 (.cells #[.slice (some ⟨s, 0, none⟩) n cs] 31)) 0).trans rfl, pw_cell_below (below_alloc (Below.refl _ _) _) e8, Kd.R_alloc HS8.out _, Kd.S_alloc HO8.out _, below_alloc HB8.out _, Nat.lt_trans (by omega) (alloc_lt _ _), alloc_lt _ _, Nat.lt_trans (by omega) (alloc_lt _ _)⟩
      have hN : EvN w.heap.size w8.heap.size w7.heap.size s g := ⟨by omega, by omega, by omega, by omega, by omega, by omega⟩
      have hsg : s ≠ g := by omega
      clear HS8 HO8 HB8 HO7 HB7 c8 e8 HO HB hsl hgl hsw hgw hw7 hw8 hlw7 ca hlw
      generalize w8.alloc (.cells #[.slice (some ⟨s, 0, none⟩) n cs] 31) = W9 at hI ⊢
      generalize w8.heap.size = gs at hI hN ⊢
      generalize w7.heap.size = go at hI hN ⊢
      have HG0 := Aside0.mk (show evBack l0 (evGo l0 n (l0.length - 0) 0 (-1) (List.replicate n false) (List.replicate n z67)) = some (r1, r2) by rw [HNN.out]; exact HR.out)
      clear HR w7 w8
      go_loopw [10, 37] (fun v10 v37 W => ∃ (j : Nat) (fr : Int) (set : List Bool) (out : List S67), v37 = .int .i64 (j : Int) ∧ v10 = .int .i64 fr ∧ j ≤ l0.length ∧ Aside0 (evBack l0 (evGo l0 n (l0.length - j) j fr set out) = some (r1, r2)) ∧ EvI w n w.heap.size gs go s g cs cg set out W) (fun _ v37 _ => l0.length - (intOf v37).toNat)
      case atStart => exact ⟨0, -1, _, _, rfl, rfl, Nat.zero_le _, HG0, hI⟩
      case round =>
        clear HG0 hI
        obtain ⟨j, fr, set, out, rfl, rfl, hj, HG, hI⟩ := hrel
        by_cases hlt : j < l0.length
        · have hg := HG.out
          rw [show l0.length - j = (l0.length - (j + 1)) + 1 by omega] at hg
          simp only [evGo] at hg
          obtain ⟨x, hx⟩ : ∃ x, x = J38 l0 (j : Int) := ⟨_, rfl⟩
          rw [← hx] at hg
          obtain ⟨ad2, A8, c8, ea, y0, y1, y2, y3, y4, y5, y6, y7, y8, y9, y10, hc8, hr8⟩ := at_T38 hr0 (j : Int) (by omega) (by omega)
          cases ea
          rw [← hx] at y0 y1 y2 y3 y4 y5 y6 y7 y8 y9 y10 hc8 hr8
          simp only [Int.toNat_natCast] at y0 y1 y2 y3 y4 y5 y6 y7 y8 y9 y10
          replace y0 := pw_cell_below hI.HB y0
          replace y1 := pw_cell_below hI.HB y1
          replace y2 := pw_cell_below hI.HB y2
          replace y3 := pw_cell_below hI.HB y3
          replace y4 := pw_cell_below hI.HB y4
          replace y5 := pw_cell_below hI.HB y5
          replace y6 := pw_cell_below hI.HB y6
          replace y7 := pw_cell_below hI.HB y7
          replace y8 := pw_cell_below hI.HB y8
          replace y9 := pw_cell_below hI.HB y9
          replace y10 := pw_cell_below hI.HB y10
          have hin : x ∈ l0 := by
            rw [hx]
            unfold J38
            rw [Int.toNat_natCast, List.getD_eq_getElem?_getD, List.getElem?_eq_getElem (by omega)]
            exact List.getElem_mem _
          have HPX := Aside0.mk (HPS.out x hin)
          clear hx hin HG
          have hIb := hI.below (below_alloc (Below.refl wr.heap.size wr) (.cells #[.int .i64 x.f0, .int .i64 x.f1.f0, .int .i64 x.f1.f1, .int .i64 x.f1.f2, .int .i64 x.f1.f3, .bool x.f2.f0, .int .i64 x.f2.f1, .int .i64 x.f2.f2, .slice A8 x.f2.f3.length c8, .int .i64 x.f3, .int .i64 x.f4] 38))
          have hBs : wr.heap.size ≠ s := by have := Kd.R_lt hI.HS s (by simp [Value.ownBlock]); omega
          have hBg : wr.heap.size ≠ g := by have := Kd.S_lt hI.HO g (by simp [Value.ownBlock]); omega
          have hOb := Aside0.mk (Kd.S_mono (Kd.S_bound hIb.HO) (fun _ hk => hk.2.2.1))
          have ub0 : (wr.alloc (.cells #[.int .i64 x.f0, .int .i64 x.f1.f0, .int .i64 x.f1.f1, .int .i64 x.f1.f2, .int .i64 x.f1.f3, .bool x.f2.f0, .int .i64 x.f2.f1, .int .i64 x.f2.f2, .slice A8 x.f2.f3.length c8, .int .i64 x.f3, .int .i64 x.f4] 38)).cell? ⟨wr.heap.size, 0, none⟩ = some (.int .i64 x.f0) := (blk_cell (blk_new wr (.cells #[.int .i64 x.f0, .int .i64 x.f1.f0, .int .i64 x.f1.f1, .int .i64 x.f1.f2, .int .i64 x.f1.f3, .bool x.f2.f0, .int .i64 x.f2.f1, .int .i64 x.f2.f2, .slice A8 x.f2.f3.length c8, .int .i64 x.f3, .int .i64 x.f4] 38)) 0).trans rfl
          have ub1 : (wr.alloc (.cells #[.int .i64 x.f0, .int .i64 x.f1.f0, .int .i64 x.f1.f1, .int .i64 x.f1.f2, .int .i64 x.f1.f3, .bool x.f2.f0, .int .i64 x.f2.f1, .int .i64 x.f2.f2, .slice A8 x.f2.f3.length c8, .int .i64 x.f3, .int .i64 x.f4] 38)).cell? ⟨wr.heap.size, 1, none⟩ = some (.int .i64 x.f1.f0) := (blk_cell (blk_new wr (.cells #[.int .i64 x.f0, .int .i64 x.f1.f0, .int .i64 x.f1.f1, .int .i64 x.f1.f2, .int .i64 x.f1.f3, .bool x.f2.f0, .int .i64 x.f2.f1, .int .i64 x.f2.f2, .slice A8 x.f2.f3.length c8, .int .i64 x.f3, .int .i64 x.f4] 38)) 1).trans rfl
          have ub2 : (wr.alloc (.cells #[.int .i64 x.f0, .int .i64 x.f1.f0, .int .i64 x.f1.f1, .int .i64 x.f1.f2, .int .i64 x.f1.f3, .bool x.f2.f0, .int .i64 x.f2.f1, .int .i64 x.f2.f2, .slice A8 x.f2.f3.length c8, .int .i64 x.f3, .int .i64 x.f4] 38)).cell? ⟨wr.heap.size, 2, none⟩ = some (.int .i64 x.f1.f1) := (blk_cell (blk_new wr (.cells #[.int .i64 x.f0, .int .i64 x.f1.f0, .int .i64 x.f1.f1, .int .i64 x.f1.f2, .int .i64 x.f1.f3, .bool x.f2.f0, .int .i64 x.f2.f1, .int .i64 x.f2.f2, .slice A8 x.f2.f3.length c8, .int .i64 x.f3, .int .i64 x.f4] 38)) 2).trans rfl
          have ub3 : (wr.alloc (.cells #[.int .i64 x.f0, .int .i64 x.f1.f0, .int .i64 x.f1.f1, .int .i64 x.f1.f2, .int .i64 x.f1.f3, .bool x.f2.f0, .int .i64 x.f2.f1, .int .i64 x.f2.f2, .slice A8 x.f2.f3.length c8, .int .i64 x.f3, .int .i64 x.f4] 38)).cell? ⟨wr.heap.size, 3, none⟩ = some (.int .i64 x.f1.f2) := (blk_cell (blk_new wr (.cells #[.int .i64 x.f0, .int .i64 x.f1.f0, .int .i64 x.f1.f1, .int .i64 x.f1.f2, .int .i64 x.f1.f3, .bool x.f2.f0, .int .i64 x.f2.f1, .int .i64 x.f2.f2, .slice A8 x.f2.f3.length c8, .int .i64 x.f3, .int .i64 x.f4] 38)) 3).trans rfl
          have ub4 : (wr.alloc (.cells #[.int .i64 x.f0, .int .i64 x.f1.f0, .int .i64 x.f1.f1, .int .i64 x.f1.f2, .int .i64 x.f1.f3, .bool x.f2.f0, .int .i64 x.f2.f1, .int .i64 x.f2.f2, .slice A8 x.f2.f3.length c8, .int .i64 x.f3, .int .i64 x.f4] 38)).cell? ⟨wr.heap.size, 4, none⟩ = some (.int .i64 x.f1.f3) := (blk_cell (blk_new wr (.cells #[.int .i64 x.f0, .int .i64 x.f1.f0, .int .i64 x.f1.f1, .int .i64 x.f1.f2, .int .i64 x.f1.f3, .bool x.f2.f0, .int .i64 x.f2.f1, .int .i64 x.f2.f2, .slice A8 x.f2.f3.length c8, .int .i64 x.f3, .int .i64 x.f4] 38)) 4).trans rfl
          have ub5 : (wr.alloc (.cells #[.int .i64 x.f0, .int .i64 x.f1.f0, .int .i64 x.f1.f1, .int .i64 x.f1.f2, .int .i64 x.f1.f3, .bool x.f2.f0, .int .i64 x.f2.f1, .int .i64 x.f2.f2, .slice A8 x.f2.f3.length c8, .int .i64 x.f3, .int .i64 x.f4] 38)).cell? ⟨wr.heap.size, 5, none⟩ = some (.bool x.f2.f0) := (blk_cell (blk_new wr (.cells #[.int .i64 x.f0, .int .i64 x.f1.f0, .int .i64 x.f1.f1, .int .i64 x.f1.f2, .int .i64 x.f1.f3, .bool x.f2.f0, .int .i64 x.f2.f1, .int .i64 x.f2.f2, .slice A8 x.f2.f3.length c8, .int .i64 x.f3, .int .i64 x.f4] 38)) 5).trans rfl
          have ub6 : (wr.alloc (.cells #[.int .i64 x.f0, .int .i64 x.f1.f0, .int .i64 x.f1.f1, .int .i64 x.f1.f2, .int .i64 x.f1.f3, .bool x.f2.f0, .int .i64 x.f2.f1, .int .i64 x.f2.f2, .slice A8 x.f2.f3.length c8, .int .i64 x.f3, .int .i64 x.f4] 38)).cell? ⟨wr.heap.size, 6, none⟩ = some (.int .i64 x.f2.f1) := (blk_cell (blk_new wr (.cells #[.int .i64 x.f0, .int .i64 x.f1.f0, .int .i64 x.f1.f1, .int .i64 x.f1.f2, .int .i64 x.f1.f3, .bool x.f2.f0, .int .i64 x.f2.f1, .int .i64 x.f2.f2, .slice A8 x.f2.f3.length c8, .int .i64 x.f3, .int .i64 x.f4] 38)) 6).trans rfl
          have ub7 : (wr.alloc (.cells #[.int .i64 x.f0, .int .i64 x.f1.f0, .int .i64 x.f1.f1, .int .i64 x.f1.f2, .int .i64 x.f1.f3, .bool x.f2.f0, .int .i64 x.f2.f1, .int .i64 x.f2.f2, .slice A8 x.f2.f3.length c8, .int .i64 x.f3, .int .i64 x.f4] 38)).cell? ⟨wr.heap.size, 7, none⟩ = some (.int .i64 x.f2.f2) := (blk_cell (blk_new wr (.cells #[.int .i64 x.f0, .int .i64 x.f1.f0, .int .i64 x.f1.f1, .int .i64 x.f1.f2, .int .i64 x.f1.f3, .bool x.f2.f0, .int .i64 x.f2.f1, .int .i64 x.f2.f2, .slice A8 x.f2.f3.length c8, .int .i64 x.f3, .int .i64 x.f4] 38)) 7).trans rfl
          have ub8 : (wr.alloc (.cells #[.int .i64 x.f0, .int .i64 x.f1.f0, .int .i64 x.f1.f1, .int .i64 x.f1.f2, .int .i64 x.f1.f3, .bool x.f2.f0, .int .i64 x.f2.f1, .int .i64 x.f2.f2, .slice A8 x.f2.f3.length c8, .int .i64 x.f3, .int .i64 x.f4] 38)).cell? ⟨wr.heap.size, 8, none⟩ = some (.slice A8 x.f2.f3.length c8) := (blk_cell (blk_new wr (.cells #[.int .i64 x.f0, .int .i64 x.f1.f0, .int .i64 x.f1.f1, .int .i64 x.f1.f2, .int .i64 x.f1.f3, .bool x.f2.f0, .int .i64 x.f2.f1, .int .i64 x.f2.f2, .slice A8 x.f2.f3.length c8, .int .i64 x.f3, .int .i64 x.f4] 38)) 8).trans rfl
          have ub9 : (wr.alloc (.cells #[.int .i64 x.f0, .int .i64 x.f1.f0, .int .i64 x.f1.f1, .int .i64 x.f1.f2, .int .i64 x.f1.f3, .bool x.f2.f0, .int .i64 x.f2.f1, .int .i64 x.f2.f2, .slice A8 x.f2.f3.length c8, .int .i64 x.f3, .int .i64 x.f4] 38)).cell? ⟨wr.heap.size, 9, none⟩ = some (.int .i64 x.f3) := (blk_cell (blk_new wr (.cells #[.int .i64 x.f0, .int .i64 x.f1.f0, .int .i64 x.f1.f1, .int .i64 x.f1.f2, .int .i64 x.f1.f3, .bool x.f2.f0, .int .i64 x.f2.f1, .int .i64 x.f2.f2, .slice A8 x.f2.f3.length c8, .int .i64 x.f3, .int .i64 x.f4] 38)) 9).trans rfl
          have ub10 : (wr.alloc (.cells #[.int .i64 x.f0, .int .i64 x.f1.f0, .int .i64 x.f1.f1, .int .i64 x.f1.f2, .int .i64 x.f1.f3, .bool x.f2.f0, .int .i64 x.f2.f1, .int .i64 x.f2.f2, .slice A8 x.f2.f3.length c8, .int .i64 x.f3, .int .i64 x.f4] 38)).cell? ⟨wr.heap.size, 10, none⟩ = some (.int .i64 x.f4) := (blk_cell (blk_new wr (.cells #[.int .i64 x.f0, .int .i64 x.f1.f0, .int .i64 x.f1.f1, .int .i64 x.f1.f2, .int .i64 x.f1.f3, .bool x.f2.f0, .int .i64 x.f2.f1, .int .i64 x.f2.f2, .slice A8 x.f2.f3.length c8, .int .i64 x.f3, .int .i64 x.f4] 38)) 10).trans rfl
          by_cases h3 : x.f3 ≤ fr
          · rw [if_pos h3] at hg
            cases hg
            have h3' : decide (x.f3 ≤ fr) = true := decide_eq_true h3
            clear ub0 ub1 ub2 ub3 ub4 ub5 ub6 ub7 ub8 ub9 ub10
            go_wp2
            go_ret2
            exact ⟨_, rfl, Kd.S_nil _ _ _ _ _, hIb.HB⟩
          rw [if_neg h3] at hg
          have h3' : decide (x.f3 ≤ fr) = false := decide_eq_false h3
          obtain ⟨b, hb⟩ : ∃ b, okAt n set x.f3 = b := ⟨_, rfl⟩
          rw [hb] at hg
          have NB := Aside0.mk hb
          clear hb
          cases b with
          | false =>
            rw [if_neg (by decide)] at hg
            cases hg
            clear ub0 ub1 ub2 ub3 ub4 ub5 ub6 ub7 ub8 ub9 ub10
            go_wp2_with (go_at_call 66; refine (put_ev hIb hN x.f3 (invE x) none 0 (wr.alloc (.cells #[.int .i64 x.f0, .int .i64 x.f1.f0, .int .i64 x.f1.f1, .int .i64 x.f1.f2, .int .i64 x.f1.f3, .bool x.f2.f0, .int .i64 x.f2.f1, .int .i64 x.f2.f2, .slice A8 x.f2.f3.length c8, .int .i64 x.f3, .int .i64 x.f4] 38)).heap.size (Kd.R_nil _ _ _ _ _) hIb.HB.size hOb.out).mono ?_; rintro e w2 hp; obtain ⟨rfl, hI2, -⟩ := hp.no NB.out; have HB2 := Aside0.mk hI2.HB; clear hp hI2)
            go_ret2
            exact ⟨_, rfl, Kd.S_nil _ _ _ _ _, HB2.out⟩
          | true =>
            rw [if_pos rfl] at hg
            have HG := Aside0.mk hg
            clear hg
            by_cases h4 : x.f4 = -1
            · have hg := HG.out
              rw [if_pos h4] at hg
              have h4' : (x.f4 == -1) = true := by simpa using h4
              clear h4
              obtain ⟨b2, hb2⟩ : ∃ b2, bareB x.f2 = b2 := ⟨_, rfl⟩
              rw [hb2] at hg
              have NB2 := Aside0.mk hb2
              clear hb2 HG
              cases b2 with
              | false =>
                rw [if_neg (by decide)] at hg
                cases hg
                go_wp2_with (first
                  | (go_at_call 66; refine (put_ev hIb hN x.f3 (invE x) none 0 (wr.alloc (.cells #[.int .i64 x.f0, .int .i64 x.f1.f0, .int .i64 x.f1.f1, .int .i64 x.f1.f2, .int .i64 x.f1.f3, .bool x.f2.f0, .int .i64 x.f2.f1, .int .i64 x.f2.f2, .slice A8 x.f2.f3.length c8, .int .i64 x.f3, .int .i64 x.f4] 38)).heap.size (Kd.R_nil _ _ _ _ _) hIb.HB.size hOb.out).mono ?_; rintro e w2 hp; obtain ⟨rfl, hI2, hf2⟩ := hp.yes NB.out; have HL2 : Aside0 (wr.heap.size < w2.heap.size) := ⟨Nat.lt_of_not_le fun hle => by have h0 := q_lt ub0 (hf2 _ (alloc_lt _ _) hBs hBg); omega⟩; have q0 := cell_heap (hf2 _ (alloc_lt _ _) hBs hBg) ub0; have q1 := cell_heap (hf2 _ (alloc_lt _ _) hBs hBg) ub1; have q2 := cell_heap (hf2 _ (alloc_lt _ _) hBs hBg) ub2; have q3 := cell_heap (hf2 _ (alloc_lt _ _) hBs hBg) ub3; have q4 := cell_heap (hf2 _ (alloc_lt _ _) hBs hBg) ub4; have q5 := cell_heap (hf2 _ (alloc_lt _ _) hBs hBg) ub5; have q6 := cell_heap (hf2 _ (alloc_lt _ _) hBs hBg) ub6; have q7 := cell_heap (hf2 _ (alloc_lt _ _) hBs hBg) ub7; have q8 := cell_heap (hf2 _ (alloc_lt _ _) hBs hBg) ub8; have q9 := cell_heap (hf2 _ (alloc_lt _ _) hBs hBg) ub9; have q10 := cell_heap (hf2 _ (alloc_lt _ _) hBs hBg) ub10; clear hp hf2)
                  | (go_at_call 55; refine (bare_calls x.f2 A8 c8 w2).mono ?_; rintro e w3 ⟨rfl, rfl⟩; rw [NB2.out]))
                go_ret2
                exact ⟨_, rfl, Kd.S_nil _ _ _ _ _, below_alloc hI2.HB _⟩
              | true =>
                rw [if_pos rfl] at hg
                have HG := Aside0.mk hg
                clear hg
                go_wp2_with (first
                  | (go_at_call 66; refine (put_ev hIb hN x.f3 (invE x) none 0 (wr.alloc (.cells #[.int .i64 x.f0, .int .i64 x.f1.f0, .int .i64 x.f1.f1, .int .i64 x.f1.f2, .int .i64 x.f1.f3, .bool x.f2.f0, .int .i64 x.f2.f1, .int .i64 x.f2.f2, .slice A8 x.f2.f3.length c8, .int .i64 x.f3, .int .i64 x.f4] 38)).heap.size (Kd.R_nil _ _ _ _ _) hIb.HB.size hOb.out).mono ?_; rintro e w2 hp; obtain ⟨rfl, hI2, hf2⟩ := hp.yes NB.out; have HL2 : Aside0 (wr.heap.size < w2.heap.size) := ⟨Nat.lt_of_not_le fun hle => by have h0 := q_lt ub0 (hf2 _ (alloc_lt _ _) hBs hBg); omega⟩; have q0 := cell_heap (hf2 _ (alloc_lt _ _) hBs hBg) ub0; have q1 := cell_heap (hf2 _ (alloc_lt _ _) hBs hBg) ub1; have q2 := cell_heap (hf2 _ (alloc_lt _ _) hBs hBg) ub2; have q3 := cell_heap (hf2 _ (alloc_lt _ _) hBs hBg) ub3; have q4 := cell_heap (hf2 _ (alloc_lt _ _) hBs hBg) ub4; have q5 := cell_heap (hf2 _ (alloc_lt _ _) hBs hBg) ub5; have q6 := cell_heap (hf2 _ (alloc_lt _ _) hBs hBg) ub6; have q7 := cell_heap (hf2 _ (alloc_lt _ _) hBs hBg) ub7; have q8 := cell_heap (hf2 _ (alloc_lt _ _) hBs hBg) ub8; have q9 := cell_heap (hf2 _ (alloc_lt _ _) hBs hBg) ub9; have q10 := cell_heap (hf2 _ (alloc_lt _ _) hBs hBg) ub10; clear hp hf2)
                  | (go_at_call 55; refine (bare_calls x.f2 A8 c8 w2).mono ?_; rintro e w3 ⟨rfl, rfl⟩; rw [NB2.out]))
                go_roundw
                case rel => exact ⟨j + 1, x.f3, _, _, by go_num, rfl, by omega, HG, hI2.below (below_alloc (Below.refl _ _) _)⟩
                case measure => simp [intOf]; omega
            · have hg := HG.out
              rw [if_neg h4] at hg
              have h4' : (x.f4 == -1) = false := by simpa using h4
              clear HG
              by_cases h5 : x.f4 ≤ x.f3
              · rw [if_pos h5] at hg
                cases hg
                have h5' : decide (x.f4 ≤ x.f3) = true := decide_eq_true h5
                go_wp2_with (go_at_call 66; refine (put_ev hIb hN x.f3 (invE x) none 0 (wr.alloc (.cells #[.int .i64 x.f0, .int .i64 x.f1.f0, .int .i64 x.f1.f1, .int .i64 x.f1.f2, .int .i64 x.f1.f3, .bool x.f2.f0, .int .i64 x.f2.f1, .int .i64 x.f2.f2, .slice A8 x.f2.f3.length c8, .int .i64 x.f3, .int .i64 x.f4] 38)).heap.size (Kd.R_nil _ _ _ _ _) hIb.HB.size hOb.out).mono ?_; rintro e w2 hp; obtain ⟨rfl, hI2, hf2⟩ := hp.yes NB.out; have HL2 : Aside0 (wr.heap.size < w2.heap.size) := ⟨Nat.lt_of_not_le fun hle => by have h0 := q_lt ub0 (hf2 _ (alloc_lt _ _) hBs hBg); omega⟩; have q0 := cell_heap (hf2 _ (alloc_lt _ _) hBs hBg) ub0; have q1 := cell_heap (hf2 _ (alloc_lt _ _) hBs hBg) ub1; have q2 := cell_heap (hf2 _ (alloc_lt _ _) hBs hBg) ub2; have q3 := cell_heap (hf2 _ (alloc_lt _ _) hBs hBg) ub3; have q4 := cell_heap (hf2 _ (alloc_lt _ _) hBs hBg) ub4; have q5 := cell_heap (hf2 _ (alloc_lt _ _) hBs hBg) ub5; have q6 := cell_heap (hf2 _ (alloc_lt _ _) hBs hBg) ub6; have q7 := cell_heap (hf2 _ (alloc_lt _ _) hBs hBg) ub7; have q8 := cell_heap (hf2 _ (alloc_lt _ _) hBs hBg) ub8; have q9 := cell_heap (hf2 _ (alloc_lt _ _) hBs hBg) ub9; have q10 := cell_heap (hf2 _ (alloc_lt _ _) hBs hBg) ub10; clear hp hf2)
                go_region
                go_wp2
                go_ret2
                exact ⟨_, rfl, Kd.S_nil _ _ _ _ _, below_drew1 hI2.HB⟩
              rw [if_neg h5] at hg
              have h5' : decide (x.f4 ≤ x.f3) = false := decide_eq_false h5
              have h5n : x.f3 < x.f4 := by omega
              obtain ⟨b3, hb3⟩ : ∃ b3, okAt n (set.set x.f3.toNat true) x.f4 = b3 := ⟨_, rfl⟩
              rw [hb3] at hg
              have NB3 := Aside0.mk hb3
              clear hb3
              have HC := Aside0.mk (show event_own.f x.f0 true x.f1.f0 x.f1.f1 x.f1.f2 x.f1.f3 x.f2.f0 x.f2.f1 x.f2.f2 x.f2.f3 = some (x.f0, true, x.f1.f0, x.f1.f1, x.f1.f2, x.f1.f3, x.f2.f0, x.f2.f1, x.f2.f2, x.f2.f3) by unfold event_own.f api_Pair_73.f; rw [if_pos (by have := HPX.out; omega)]; rfl)
              have HG := Aside0.mk hg
              clear hg
              go_wp2_with (go_at_call 66; refine (put_ev hIb hN x.f3 (invE x) none 0 (wr.alloc (.cells #[.int .i64 x.f0, .int .i64 x.f1.f0, .int .i64 x.f1.f1, .int .i64 x.f1.f2, .int .i64 x.f1.f3, .bool x.f2.f0, .int .i64 x.f2.f1, .int .i64 x.f2.f2, .slice A8 x.f2.f3.length c8, .int .i64 x.f3, .int .i64 x.f4] 38)).heap.size (Kd.R_nil _ _ _ _ _) hIb.HB.size hOb.out).mono ?_; rintro e w2 hp; obtain ⟨rfl, hI2, hf2⟩ := hp.yes NB.out; have HL2 : Aside0 (wr.heap.size < w2.heap.size) := ⟨Nat.lt_of_not_le fun hle => by have h0 := q_lt ub0 (hf2 _ (alloc_lt _ _) hBs hBg); omega⟩; have q0 := cell_heap (hf2 _ (alloc_lt _ _) hBs hBg) ub0; have q1 := cell_heap (hf2 _ (alloc_lt _ _) hBs hBg) ub1; have q2 := cell_heap (hf2 _ (alloc_lt _ _) hBs hBg) ub2; have q3 := cell_heap (hf2 _ (alloc_lt _ _) hBs hBg) ub3; have q4 := cell_heap (hf2 _ (alloc_lt _ _) hBs hBg) ub4; have q5 := cell_heap (hf2 _ (alloc_lt _ _) hBs hBg) ub5; have q6 := cell_heap (hf2 _ (alloc_lt _ _) hBs hBg) ub6; have q7 := cell_heap (hf2 _ (alloc_lt _ _) hBs hBg) ub7; have q8 := cell_heap (hf2 _ (alloc_lt _ _) hBs hBg) ub8; have q9 := cell_heap (hf2 _ (alloc_lt _ _) hBs hBg) ub9; have q10 := cell_heap (hf2 _ (alloc_lt _ _) hBs hBg) ub10; clear hp hf2)
              have hr2 : Kd.C k70 w2.drew A8 x.f2.f3.length x.f2.f3 := Kd.C_below hr8 (below_drew1 hI2.HB)
              have HI2 := Aside0.mk (hI2.below (below_drew1 (Below.refl _ _)))
              have hl2 : wr.heap.size < w2.drew.heap.size := HL2.out
              have d0 : w2.drew.cell? ⟨wr.heap.size, 0, none⟩ = some (.int .i64 x.f0) := q0
              have d1 : w2.drew.cell? ⟨wr.heap.size, 1, none⟩ = some (.int .i64 x.f1.f0) := q1
              have d2 : w2.drew.cell? ⟨wr.heap.size, 2, none⟩ = some (.int .i64 x.f1.f1) := q2
              have d3 : w2.drew.cell? ⟨wr.heap.size, 3, none⟩ = some (.int .i64 x.f1.f2) := q3
              have d4 : w2.drew.cell? ⟨wr.heap.size, 4, none⟩ = some (.int .i64 x.f1.f3) := q4
              have d5 : w2.drew.cell? ⟨wr.heap.size, 5, none⟩ = some (.bool x.f2.f0) := q5
              have d6 : w2.drew.cell? ⟨wr.heap.size, 6, none⟩ = some (.int .i64 x.f2.f1) := q6
              have d7 : w2.drew.cell? ⟨wr.heap.size, 7, none⟩ = some (.int .i64 x.f2.f2) := q7
              have d8 : w2.drew.cell? ⟨wr.heap.size, 8, none⟩ = some (.slice A8 x.f2.f3.length c8) := q8
              have d9 : w2.drew.cell? ⟨wr.heap.size, 9, none⟩ = some (.int .i64 x.f3) := q9
              have d10 : w2.drew.cell? ⟨wr.heap.size, 10, none⟩ = some (.int .i64 x.f4) := q10
              cases b3 with
              | false =>
                go_region_held3 (fun W' => W'.cell? ⟨wr.heap.size, 0, none⟩ = some (.int .i64 x.f0) ∧ W'.cell? ⟨wr.heap.size, 1, none⟩ = some (.int .i64 x.f1.f0) ∧ W'.cell? ⟨wr.heap.size, 2, none⟩ = some (.int .i64 x.f1.f1) ∧ W'.cell? ⟨wr.heap.size, 3, none⟩ = some (.int .i64 x.f1.f2) ∧ W'.cell? ⟨wr.heap.size, 4, none⟩ = some (.int .i64 x.f1.f3) ∧ W'.cell? ⟨wr.heap.size, 5, none⟩ = some (.bool x.f2.f0) ∧ W'.cell? ⟨wr.heap.size, 6, none⟩ = some (.int .i64 x.f2.f1) ∧ W'.cell? ⟨wr.heap.size, 7, none⟩ = some (.int .i64 x.f2.f2) ∧ W'.cell? ⟨wr.heap.size, 8, none⟩ = some (.slice A8 x.f2.f3.length c8) ∧ W'.cell? ⟨wr.heap.size, 9, none⟩ = some (.int .i64 x.f3) ∧ W'.cell? ⟨wr.heap.size, 10, none⟩ = some (.int .i64 x.f4)) (first | exact ⟨q0, q1, q2, q3, q4, q5, q6, q7, q8, q9, q10⟩ | exact ⟨f0, f1, f2, f3, f4, f5, f6, f7, f8, f9, f10⟩ | exact ⟨e0, e1, e2, e3, e4, e5, e6, e7, e8, e9, e10⟩) (first
                  | (go_at_call 67; refine (event_own.calls x.f0 true x.f1.f0 x.f1.f1 x.f1.f2 x.f1.f3 x.f2.f0 x.f2.f1 x.f2.f2 A8 c8 x.f2.f3 _ _ _ _ _ _ _ _ _ _ _ ?s1 hc8 HC.out).mono ?_; (case s1 => exact hr2); rintro e w3 ⟨v9, rfl, ho9, hb9⟩; obtain ⟨A9, c9, rfl⟩ := Kd.R_slice ho9; have HI3 := Aside0.mk (HI2.out.below hb9); have HOw := Aside0.mk ho9; have HO3 := Aside0.mk (Kd.S_mono (Kd.S_old HI2.out.HO hb9) (fun _ hk => hk.2)); have hl3 : wr.heap.size < w3.heap.size := Nat.lt_of_lt_of_le hl2 hb9.size; have e0 := pw_cell_below hb9 d0; have e1 := pw_cell_below hb9 d1; have e2 := pw_cell_below hb9 d2; have e3 := pw_cell_below hb9 d3; have e4 := pw_cell_below hb9 d4; have e5 := pw_cell_below hb9 d5; have e6 := pw_cell_below hb9 d6; have e7 := pw_cell_below hb9 d7; have e8 := pw_cell_below hb9 d8; have e9 := pw_cell_below hb9 d9; have e10 := pw_cell_below hb9 d10; clear ho9 hb9)
                  | (go_at_call 66; refine (put_ev HI3.out hN x.f4 (retE x) A9 c9 w2.drew.heap.size HOw.out HI2.out.HB.size HO3.out).mono ?_; rintro e w4 hp; obtain ⟨rfl, hI4, hb4⟩ := hp.no NB3.out; have f0 := pw_cell_below hb4 e0; have f1 := pw_cell_below hb4 e1; have f2 := pw_cell_below hb4 e2; have f3 := pw_cell_below hb4 e3; have f4 := pw_cell_below hb4 e4; have f5 := pw_cell_below hb4 e5; have f6 := pw_cell_below hb4 e6; have f7 := pw_cell_below hb4 e7; have f8 := pw_cell_below hb4 e8; have f9 := pw_cell_below hb4 e9; have f10 := pw_cell_below hb4 e10; clear hp hb4))
                have hg := HG.out
                rw [if_neg (by decide)] at hg
                cases hg
                go_wp2
                go_ret2
                exact ⟨_, rfl, Kd.S_nil _ _ _ _ _, hI4.HB⟩
              | true =>
                go_region_held3 (fun W' => W'.cell? ⟨wr.heap.size, 0, none⟩ = some (.int .i64 x.f0) ∧ W'.cell? ⟨wr.heap.size, 1, none⟩ = some (.int .i64 x.f1.f0) ∧ W'.cell? ⟨wr.heap.size, 2, none⟩ = some (.int .i64 x.f1.f1) ∧ W'.cell? ⟨wr.heap.size, 3, none⟩ = some (.int .i64 x.f1.f2) ∧ W'.cell? ⟨wr.heap.size, 4, none⟩ = some (.int .i64 x.f1.f3) ∧ W'.cell? ⟨wr.heap.size, 5, none⟩ = some (.bool x.f2.f0) ∧ W'.cell? ⟨wr.heap.size, 6, none⟩ = some (.int .i64 x.f2.f1) ∧ W'.cell? ⟨wr.heap.size, 7, none⟩ = some (.int .i64 x.f2.f2) ∧ W'.cell? ⟨wr.heap.size, 8, none⟩ = some (.slice A8 x.f2.f3.length c8) ∧ W'.cell? ⟨wr.heap.size, 9, none⟩ = some (.int .i64 x.f3) ∧ W'.cell? ⟨wr.heap.size, 10, none⟩ = some (.int .i64 x.f4)) (first | exact ⟨q0, q1, q2, q3, q4, q5, q6, q7, q8, q9, q10⟩ | exact ⟨f0, f1, f2, f3, f4, f5, f6, f7, f8, f9, f10⟩ | exact ⟨e0, e1, e2, e3, e4, e5, e6, e7, e8, e9, e10⟩) (first
                  | (go_at_call 67; refine (event_own.calls x.f0 true x.f1.f0 x.f1.f1 x.f1.f2 x.f1.f3 x.f2.f0 x.f2.f1 x.f2.f2 A8 c8 x.f2.f3 _ _ _ _ _ _ _ _ _ _ _ ?s1 hc8 HC.out).mono ?_; (case s1 => exact hr2); rintro e w3 ⟨v9, rfl, ho9, hb9⟩; obtain ⟨A9, c9, rfl⟩ := Kd.R_slice ho9; have HI3 := Aside0.mk (HI2.out.below hb9); have HOw := Aside0.mk ho9; have HO3 := Aside0.mk (Kd.S_mono (Kd.S_old HI2.out.HO hb9) (fun _ hk => hk.2)); have hl3 : wr.heap.size < w3.heap.size := Nat.lt_of_lt_of_le hl2 hb9.size; have e0 := pw_cell_below hb9 d0; have e1 := pw_cell_below hb9 d1; have e2 := pw_cell_below hb9 d2; have e3 := pw_cell_below hb9 d3; have e4 := pw_cell_below hb9 d4; have e5 := pw_cell_below hb9 d5; have e6 := pw_cell_below hb9 d6; have e7 := pw_cell_below hb9 d7; have e8 := pw_cell_below hb9 d8; have e9 := pw_cell_below hb9 d9; have e10 := pw_cell_below hb9 d10; clear ho9 hb9)
                  | (go_at_call 66; refine (put_ev HI3.out hN x.f4 (retE x) A9 c9 w2.drew.heap.size HOw.out HI2.out.HB.size HO3.out).mono ?_; rintro e w4 hp; obtain ⟨rfl, hI4, hf4⟩ := hp.yes NB3.out; have f0 := cell_heap (hf4 _ hl3 hBs hBg) e0; have f1 := cell_heap (hf4 _ hl3 hBs hBg) e1; have f2 := cell_heap (hf4 _ hl3 hBs hBg) e2; have f3 := cell_heap (hf4 _ hl3 hBs hBg) e3; have f4 := cell_heap (hf4 _ hl3 hBs hBg) e4; have f5 := cell_heap (hf4 _ hl3 hBs hBg) e5; have f6 := cell_heap (hf4 _ hl3 hBs hBg) e6; have f7 := cell_heap (hf4 _ hl3 hBs hBg) e7; have f8 := cell_heap (hf4 _ hl3 hBs hBg) e8; have f9 := cell_heap (hf4 _ hl3 hBs hBg) e9; have f10 := cell_heap (hf4 _ hl3 hBs hBg) e10; clear hp hf4))
                go_wp2
                go_roundw
                case rel => exact ⟨j + 1, x.f3, _, _, by go_num, rfl, by omega, ⟨by simpa using HG.out⟩, hI4⟩
                case measure => simp [intOf]; omega
        · have hg := HG.out
          rw [show l0.length - j = 0 by omega] at hg
          simp only [evGo, evBack] at hg
          rw [← HNN.out] at hg
          have kn := hI.kn
          have ko := hI.ko
          obtain ⟨hno, hcg, hC⟩ := Kd.S_reads' hI.HO
          clear HG
          by_cases hbig : n > 100000
          · rw [if_pos hbig] at hg
            cases hg
            have hd : decide ((100000 : Int) < (n : Int)) = true := decide_eq_true (by omega)
            go_wp2
            go_ret2
            exact ⟨_, rfl, Kd.S_nil _ _ _ _ _, hI.HB⟩
          rw [if_neg hbig] at hg
          have hd : decide ((100000 : Int) < (n : Int)) = false := decide_eq_false (by omega)
          obtain ⟨e, he, hg2⟩ := Option.bind_eq_some_iff.mp hg
          clear hg
          have HE := Aside0.mk he
          clear he
          have HNN2 := Aside0.mk HNN.out
          clear HNN
          subst hno
          by_cases hez : e = 0
          rotate_left
          · rw [if_neg hez] at hg2
            cases hg2
            have hez' : (e != 0) = true := by simpa using hez
            go_wp2_with (go_at_call 30; refine (event_Check.calls (some ⟨g, 0, none⟩) cg out e wr hC hcg HE.out).mono ?_; rintro e_ w2 ⟨rfl, hb2⟩; have HI2 := Aside0.mk (hI.below hb2); have k2 := (hI.below hb2).ko; clear hb2)
            go_ret2
            exact ⟨_, rfl, Kd.S_nil _ _ _ _ _, HI2.out.HB⟩
          subst hez
          rw [if_pos rfl] at hg2
          obtain ⟨back, hbk, hg3⟩ := Option.bind_eq_some_iff.mp hg2
          clear hg2
          have HBK := Aside0.mk hbk
          clear hbk
          by_cases hpb : ∀ c ∈ back, c.f2.f3.length ≤ 1048576
          rotate_left
          · rw [if_neg hpb] at hg3; cases hg3
          rw [if_pos hpb] at hg3
          have HPB := Aside0.mk hpb
          clear hpb
          obtain ⟨b, hb⟩ : ∃ b, eqcB back l0 = b := ⟨_, rfl⟩
          rw [hb] at hg3
          have NEQ := Aside0.mk hb
          clear hb
          cases b with
          | false =>
            rw [if_neg (by decide)] at hg3
            cases hg3
            go_wp2_with (first
              | (go_at_call 30; refine (event_Check.calls (some ⟨g, 0, none⟩) cg out 0 wr hC hcg HE.out).mono ?_; rintro e_ w2 ⟨rfl, hb2⟩; have HI2 := Aside0.mk (hI.below hb2); have k2 := (hI.below hb2).ko; clear hb2)
              | (go_at_call 46; refine (event_calls.calls (some ⟨g, 0, none⟩) cg out back w2 (Kd.S_reads' HI2.out.HO).2.2 hcg HBK.out).mono ?_; rintro e_ w3 ⟨v3, rfl, ho3, hb3⟩; obtain ⟨A3, c3, rfl⟩ := Kd.S_slice ho3; have HI3 := Aside0.mk (HI2.out.below hb3); have k3 := (HI2.out.below hb3).ko; have hC3 := (Kd.S_reads' ho3).2.2; clear hb3 ho3)
              | (go_at_call 68; refine (equalc_calls A3 A0 c3 c0 back l0 w3 hC3 (Kd.C_below hr0 HI3.out.HB) HPB.out).mono ?_; rintro e_ w4 ⟨rfl, hb4⟩; rw [NEQ.out]; have HI4 := Aside0.mk (HI3.out.below hb4); have k4 := (HI3.out.below hb4).ko; clear hb4))
            go_ret2
            exact ⟨_, rfl, Kd.S_nil _ _ _ _ _, HI4.out.HB⟩
          | true =>
            rw [if_pos rfl] at hg3
            obtain ⟨h1, h2⟩ := Prod.mk.inj (Option.some.inj hg3)
            subst h2
            have HR1 := Aside0.mk h1
            clear h1 hg3
            go_wp2_with (first
              | (go_at_call 30; refine (event_Check.calls (some ⟨g, 0, none⟩) cg out 0 wr hC hcg HE.out).mono ?_; rintro e_ w2 ⟨rfl, hb2⟩; have HI2 := Aside0.mk (hI.below hb2); have k2 := (hI.below hb2).ko; clear hb2)
              | (go_at_call 46; refine (event_calls.calls (some ⟨g, 0, none⟩) cg out back w2 (Kd.S_reads' HI2.out.HO).2.2 hcg HBK.out).mono ?_; rintro e_ w3 ⟨v3, rfl, ho3, hb3⟩; obtain ⟨A3, c3, rfl⟩ := Kd.S_slice ho3; have HI3 := Aside0.mk (HI2.out.below hb3); have k3 := (HI2.out.below hb3).ko; have hC3 := (Kd.S_reads' ho3).2.2; clear hb3 ho3)
              | (go_at_call 68; refine (equalc_calls A3 A0 c3 c0 back l0 w3 hC3 (Kd.C_below hr0 HI3.out.HB) HPB.out).mono ?_; rintro e_ w4 ⟨rfl, hb4⟩; rw [NEQ.out]; have HI4 := Aside0.mk (HI3.out.below hb4); have k4 := (HI3.out.below hb4).ko; clear hb4))
            go_ret2
            exact ⟨_, rfl, by rw [← HR1.out]; exact HI4.out.HO, HI4.out.HB⟩
end Go.Proofs.Ytagdkmcgepidoaa.P
