/- P.eventApart_holds, part 9 of 41: the contracts of the Go functions that the law calls, its own walk, and its plain law, for every input that the statement speaks of. -/
import Derived.Test.YtagdkmcgepidoaaMAp2
import Derived.RegionTactic
import Derived.ChangeAlike
import Derived.Outline
import Derived.Test.YtagdkmcgepidoaaMAp7
set_option linter.unusedVariables false
set_option linter.unusedSimpArgs false
/- E1 -/
namespace Go.Proofs.Ytagdkmcgepidoaa.P
open Go.RowKit Go.Proofs.YtagdkmcgepidoaaW.PrintWords Go.Proofs.YtagdkmcgepidoaaW.PrintLast Go.Proofs.YtagdkmcgepidoaaW.PrintMore
attribute [local go_sem high] eqA33
def opSame (a b : S33) : Bool := a.f0 == b.f0 && (a.f1 == b.f1 && (a.f2 == b.f2 && a.f3 == b.f3))
def evOk (n : S67) (ops : List S33) : Bool := if n.f1 = true then opSame n.f2 (J33 ops n.f0) else decide (1 ≤ n.f2.f0) && (decide (n.f2.f0 ≤ 9) && bareB n.f3)
def chkGo (l0 : List S67) : Nat → Nat → List Bool → List S33 → Int
  | 0, _, _, _ => 0
  | d + 1, j, op, ops =>
    if (J67 l0 (j : Int)).f0 < 0 ∨ (J67 l0 (j : Int)).f0 ≥ 64 ∨ (J67 l0 (j : Int)).f1 ≠ rdOf false op (J67 l0 (j : Int)).f0 then 3
    else if evOk (J67 l0 (j : Int)) ops = true then
      chkGo l0 d (j + 1) (op.set (J67 l0 (j : Int)).f0.toNat (!(J67 l0 (j : Int)).f1)) (ops.set (J67 l0 (j : Int)).f0.toNat (J67 l0 (j : Int)).f2)
    else 3
def event_Check.f (l0 : List S67) : Option Int := if l0.length > 100000 then some 2 else some (chkGo l0 l0.length 0 (List.replicate 64 false) (List.replicate 64 z33))
set_option maxHeartbeats 8000000 in
set_option maxRecDepth 100000 in
theorem event_Check.calls (A0 : Option Addr) (c0 : Nat) (l0 : List (S67)) (r : Int) (w : World) (hr0 : Kd.C k67 w A0 l0.length l0) (hc0 : l0.length ≤ c0) (h : event_Check.f l0 = some r) :
    Calls Try.prog 30 #[.slice A0 l0.length c0] w fun e w' => e = .returned (.int .i64 r) ∧ Below w.heap.size w w' := by
  have hu67 := Try.underlying67
  unfold event_Check.f at h
  by_cases hb : l0.length > 100000
  · rw [if_pos hb] at h
    cases h
    have hb1 : decide ((100000 : Int) < (l0.length : Int)) = true := decide_eq_true (by omega)
    go_enter Try.func30, Try.ntmps30
    go_wp2
    go_ret
    exact ⟨rfl, Below.refl _ _⟩
  rw [if_neg hb] at h
  have hb1 : decide ((100000 : Int) < (l0.length : Int)) = false := decide_eq_false (by omega)
  have HR := Aside0.mk (Option.some.inj h)
  clear h
  go_enter Try.func30, Try.ntmps30
  go_wp2
  go_loopw [12] (fun v12 W => ∃ (j : Nat) (op : List Bool) (ops : List S33), v12 = .int .i64 (j : Int) ∧ j ≤ l0.length ∧ Aside0 (op.length = 64) ∧ Aside0 (ops.length = 64) ∧ Aside0 (chkGo l0 (l0.length - j) j op ops = r) ∧ Aside0 (Kd.R Kd.bool 83 W w.heap.size (fun _ => True) (.slice (some ⟨w.heap.size, 0, none⟩) 64 64) op) ∧ Aside0 (Kd.R k33 84 W w.heap.size (fun _ => True) (.slice (some ⟨w.heap.size + 1, 0, none⟩) 64 64) ops) ∧ Aside0 (Below w.heap.size w W)) (fun v12 _ => l0.length - (intOf v12).toNat)
  case atStart => exact ⟨0, _, _, rfl, Nat.zero_le _, ⟨by simp⟩, ⟨by simp⟩, HR, ⟨Kd.R_alloc (R_array0 Kd.bool (Nat.le_refl _) 83 (.bool false) 64 false rfl (by decide) _ z64b (fun _ => rfl) (by decide)) _⟩, ⟨by
      have := R_array0 k33 (W := w.alloc (.cells (Builtin.zeroCells (Value.bool false).cells 64) 83)) (base := w.heap.size) (by simp) 84 (.agg #[.int .i64 0, .int .i64 0, .int .i64 0, .int .i64 0]) 64 z33 rfl (by decide) Try.zeroCells84 (by kernel_rfl) (fun W' => k33_mkM W' _ _ z33) (by decide)
      rw [← z64b] at this
      simpa using this⟩, ⟨below_alloc (below_alloc (Below.refl _ _) _) _⟩⟩
  case round =>
    obtain ⟨j, op, ops, rfl, hj, HX, HY, HG, HO, HP, HB⟩ := hrel
    by_cases hlt : j < l0.length
    · have hg := HG.out
      rw [show l0.length - j = (l0.length - (j + 1)) + 1 by omega] at hg
      simp only [chkGo] at hg
      obtain ⟨n, hn⟩ : ∃ n, n = J67 l0 (j : Int) := ⟨_, rfl⟩
      rw [← hn] at hg
      obtain ⟨ad2, A9, c9, ea, y0, y1, y2, y3, y4, y5, y6, y7, y8, y9, hc9, hr9⟩ := at_T67 (Kd.C_below hr0 HB.out) (j : Int) (by omega) (by omega)
      cases ea
      rw [← hn] at y0 y1 y2 y3 y4 y5 y6 y7 y8 y9 hc9 hr9
      simp only [Int.toNat_natCast] at y0 y1 y2 y3 y4 y5 y6 y7 y8 y9
      have HN_ := Aside0.mk hn
      clear hn HG
      obtain ⟨_, _, ea, -, hga, -⟩ := Kd.R_form HO.out (by rw [HX.out]; decide)
      rw [HX.out] at ea
      cases ea
      obtain ⟨_, _, ea, -, hgb, cb, hcb⟩ := Kd.R_form HP.out (by rw [HY.out]; decide)
      rw [HY.out] at ea
      cases ea
      have fz := fun i => blk_frozen hcb i
      by_cases hA1 : n.f0 < 0
      · have hd1 := decide_eq_true hA1
        rw [if_pos (.inl hA1)] at hg
        subst hg
        go_wp2
        go_region
        go_wp2
        go_ret
        exact ⟨rfl, below_drew1 (below_alloc HB.out _)⟩
      have hd1 := decide_eq_false hA1
      by_cases hA2 : n.f0 ≥ 64
      · have hd2 : decide ((64 : Int) ≤ n.f0) = true := decide_eq_true hA2
        rw [if_pos (.inr (.inl hA2))] at hg
        subst hg
        go_wp2
        go_region
        go_wp2
        go_ret
        exact ⟨rfl, below_drew1 (below_alloc HB.out _)⟩
      have hd2 : decide ((64 : Int) ≤ n.f0) = false := decide_eq_false hA2
      obtain ⟨ca, fa⟩ := Kd.R_celln false HO.out n.f0 (by omega) (by omega)
      unfold evOk at hg
      obtain ⟨ad3, ea, x0, x1, x2, x3⟩ := at_T33 (Kd.R_reads' HP.out).2.2 n.f0 (by omega) (by have := HY.out; omega)
      obtain rfl : (⟨w.heap.size + 1, 0, none⟩ : Addr) = ad3 := by injection ea
      simp only [add_plain] at x0 x1 x2 x3
      by_cases hret : n.f1 = true
      · rw [hret] at y1 hg
        by_cases hop : rdOf false op n.f0 = true
        · rw [hop] at ca hg
          rw [if_neg (fun hc => by rcases hc with hc | hc | hc; exact hA1 hc; exact hA2 hc; exact hc rfl), if_pos rfl] at hg
          by_cases hs : opSame n.f2 (J33 ops n.f0) = true
          · have hs' := hs
            rw [if_pos hs] at hg
            unfold opSame at hs'
            have HG := Aside0.mk hg
            have fz0 := fz (n.f0.toNat * 4)
            have fz1 := fz (n.f0.toNat * 4 + 1)
            have fz2 := fz (n.f0.toNat * 4 + 2)
            have fz3 := fz (n.f0.toNat * 4 + 3)
            clear hg fz
            go_wp2
            go_region
            go_wp2
            go_region
            go_wp2
            go_region
            have hR := arr_round HO.out HP.out n.f0 (by omega) (by omega) false n.f2
            have HO2 := Aside0.mk hR.1
            have HP2 := Aside0.mk hR.2
            have HB2 := Aside0.mk (show Below w.heap.size w (ops4 (wr.setCell ⟨w.heap.size, n.f0.toNat, none⟩ (.bool false)) (w.heap.size + 1) n.f0 n.f2) from below_set (below_set (below_set (below_set (below_set HB.out (Nat.le_refl _)) (Nat.le_succ _)) (Nat.le_succ _)) (Nat.le_succ _)) (Nat.le_succ _))
            clear hR HO HP HB
            go_wp2
            go_roundw
            case rel => exact ⟨j + 1, _, _, by go_num, by omega, ⟨by simpa using HX.out⟩, ⟨by simpa using HY.out⟩, HG, ⟨Kd.R_drew (Kd.R_drew (Kd.R_drew (Kd.R_alloc HO2.out _)))⟩, ⟨Kd.R_drew (Kd.R_drew (Kd.R_drew (Kd.R_alloc HP2.out _)))⟩, ⟨below_drew1 (below_drew1 (below_drew1 (below_alloc HB2.out _)))⟩⟩
            case measure => simp [intOf]; omega
          · have hs' : opSame n.f2 (J33 ops n.f0) = false := by simpa using hs
            rw [if_neg hs] at hg
            unfold opSame at hs'
            subst hg
            go_wp2
            go_region
            go_wp2
            go_region
            go_wp2
            go_ret
            exact ⟨rfl, below_drew1 (below_drew1 (below_alloc HB.out _))⟩
        · have hop' : rdOf false op n.f0 = false := by simpa using hop
          rw [hop'] at ca hg
          rw [if_pos (.inr (.inr (by decide)))] at hg
          subst hg
          go_wp2
          go_region
          go_wp2
          go_ret
          exact ⟨rfl, below_drew1 (below_alloc HB.out _)⟩
      · have hret' : n.f1 = false := by simpa using hret
        rw [hret'] at y1 hg
        by_cases hop : rdOf false op n.f0 = true
        · rw [hop] at ca hg
          rw [if_pos (.inr (.inr (by decide)))] at hg
          subst hg
          go_wp2
          go_region
          go_wp2
          go_ret
          exact ⟨rfl, below_drew1 (below_alloc HB.out _)⟩
        · have hop' : rdOf false op n.f0 = false := by simpa using hop
          rw [hop'] at ca hg
          rw [if_neg (fun hc => by rcases hc with hc | hc | hc; exact hA1 hc; exact hA2 hc; exact hc rfl)] at hg
          by_cases hk1 : n.f2.f0 < 1
          · have hk1' := decide_eq_true hk1
            rw [if_neg (by simp; omega)] at hg
            subst hg
            go_wp2
            go_region
            go_wp2
            go_ret
            exact ⟨rfl, below_drew1 (below_alloc HB.out _)⟩
          have hk1' := decide_eq_false hk1
          by_cases hk2 : n.f2.f0 > 9
          · have hk2' : decide ((9 : Int) < n.f2.f0) = true := decide_eq_true hk2
            rw [if_neg (by simp; omega)] at hg
            subst hg
            go_wp2
            go_region
            go_wp2
            go_ret
            exact ⟨rfl, below_drew1 (below_alloc HB.out _)⟩
          have hk2' : decide ((9 : Int) < n.f2.f0) = false := decide_eq_false hk2
          obtain ⟨bb, hbb⟩ : ∃ bb, bareB n.f3 = bb := ⟨_, rfl⟩
          have NB := Aside0.mk hbb
          cases bb with
          | false =>
            rw [if_neg (by simp [hbb])] at hg
            subst hg
            go_wp2
            go_region
            go_wp2_with (go_at_call 55; refine (bare_calls n.f3 A9 c9 _).mono ?_; rintro e w' ⟨rfl, rfl⟩; rw [NB.out])
            go_ret
            exact ⟨rfl, below_alloc (below_drew1 (below_alloc HB.out _)) _⟩
          | true =>
            rw [if_pos (by simp [hbb]; omega)] at hg
            have HG := Aside0.mk hg
            have fz0 := fz (n.f0.toNat * 4)
            have fz1 := fz (n.f0.toNat * 4 + 1)
            have fz2 := fz (n.f0.toNat * 4 + 2)
            have fz3 := fz (n.f0.toNat * 4 + 3)
            clear hg fz hbb
            go_wp2
            go_region
            go_wp2_with (go_at_call 55; refine (bare_calls n.f3 A9 c9 _).mono ?_; rintro e w' ⟨rfl, rfl⟩; rw [NB.out])
            go_region
            have hR := arr_round HO.out HP.out n.f0 (by omega) (by omega) true n.f2
            have HO2 := Aside0.mk hR.1
            have HP2 := Aside0.mk hR.2
            have HB2 := Aside0.mk (show Below w.heap.size w (ops4 (wr.setCell ⟨w.heap.size, n.f0.toNat, none⟩ (.bool true)) (w.heap.size + 1) n.f0 n.f2) from below_set (below_set (below_set (below_set (below_set HB.out (Nat.le_refl _)) (Nat.le_succ _)) (Nat.le_succ _)) (Nat.le_succ _)) (Nat.le_succ _))
            clear hR HO HP HB
            go_wp2
            go_roundw
            case rel => exact ⟨j + 1, _, _, by go_num, by omega, ⟨by simpa using HX.out⟩, ⟨by simpa using HY.out⟩, HG, ⟨Kd.R_drew (Kd.R_drew (Kd.R_alloc (Kd.R_alloc HO2.out _) _))⟩, ⟨Kd.R_drew (Kd.R_drew (Kd.R_alloc (Kd.R_alloc HP2.out _) _))⟩, ⟨below_drew1 (below_drew1 (below_alloc (below_alloc HB2.out _) _))⟩⟩
            case measure => simp [intOf]; omega
    · go_wp2
      go_ret
      have hg := HG.out
      rw [show l0.length - j = 0 by omega] at hg
      simp only [chkGo] at hg
      subst hg
      exact ⟨rfl, HB.out⟩
end Go.Proofs.Ytagdkmcgepidoaa.P
