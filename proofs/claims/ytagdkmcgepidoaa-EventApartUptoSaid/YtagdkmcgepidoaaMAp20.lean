/- P.eventApart_holds, part 21 of 41: the contracts of the Go functions that the law calls, its own walk, and its plain law, for every input that the statement speaks of. -/
import Derived.Test.YtagdkmcgepidoaaMAp19
import Derived.Deep.RegionWith
import Derived.Test.YtagdkmcgepidoaaMAp14
set_option linter.unusedVariables false
set_option linter.unusedSimpArgs false
/- E3 -/
namespace Go.Proofs.Ytagdkmcgepidoaa.P
open Go.RowKit Go.Proofs.YtagdkmcgepidoaaW.PrintWords Go.Proofs.YtagdkmcgepidoaaW.PrintLast Go.Proofs.YtagdkmcgepidoaaW.PrintMore
def bfJ (xs : List S38) (i : Nat) : Nat → Nat → List Int → List Int
  | 0, _, bf => bf
  | d + 1, j, bf => bfJ xs i d (j + 1) (if aheadB (J38 xs (j : Int)) (J38 xs (i : Int)) = true then bf.set i (Go.bits .or .i64 (rd bf (i : Int)) (wrap64 (2 ^ j))) else bf)
def bfI (xs : List S38) : Nat → Nat → List Int → List Int
  | 0, _, bf => bf
  | d + 1, i, bf => bfI xs d (i + 1) (bfJ xs i xs.length 0 bf)
def wyOk (bf : List Int) (s i : Nat) : Bool := decide (Go.bits .and .i64 ((s : Int) / 2 ^ i) 1 = 0) && (Go.bits .andNot .i64 (rd bf (i : Int)) (s : Int) == 0)
def wyT (s i : Nat) : Int := Go.bits .or .i64 (s : Int) (wrap64 (2 ^ i))
def wyJ (bf : List Int) (s : Nat) : Nat → Nat → List Int → Option (List Int)
  | 0, _, ws => some ws
  | d + 1, i, ws => if wyOk bf s i = true then (if 0 ≤ wyT s i ∧ wyT s i < (ws.length : Int) then wyJ bf s d (i + 1) (ws.set (wyT s i).toNat (wrap64 (rd ws (wyT s i) + rd ws (s : Int)))) else none) else wyJ bf s d (i + 1) ws
def wyS (n : Nat) (bf : List Int) : Nat → Nat → List Int → Option (List Int)
  | 0, _, ws => some ws
  | d + 1, s, ws => if rd ws (s : Int) = 0 then wyS n bf d (s + 1) ws else (wyJ bf s n 0 ws).bind fun ws' => wyS n bf d (s + 1) ws'
theorem delete_any (A : Option Addr) (c base : Nat) (cs : List S38) (w : World) (hS : Kd.S k38 38 w base (fun _ => True) (.slice A cs.length c) cs) (hbw : base ≤ w.heap.size) :
    Calls Try.prog 50 #[.slice A cs.length c, .func (.func 51) #[] #[]] w fun e w' => e = .returned (.slice A (donL cs).length c) ∧ Kd.R kw 38 w' base (fun _ => True) (.slice A (donL cs).length c) (donL cs) ∧ Below base w w' := by
  by_cases hn : idxGo cs cs.length 0 = -1
  · have hd : donL cs = cs := don_all cs fun i hi => idx_none cs cs.length 0 (by omega) hn i (Nat.zero_le _) hi
    rw [hd]
    refine (delete_none A c cs w (Kd.S_reads' hS).2.2 hn).mono ?_
    rintro e w' ⟨rfl, hb⟩
    exact ⟨rfl, Kd.R_below (kw_of_S hS) hb, hb.mono hbw⟩
  · have hp : 0 < cs.length := by
      cases cs with
      | nil => exact absurd rfl hn
      | cons _ _ => simp
    obtain ⟨g, cap, he, -⟩ := Kd.R_form (kw_of_S hS) hp
    cases he
    exact delete_calls g c base cs w (Kd.S_reads' hS).2.2 (kw_of_S hS) hbw hn
set_option maxHeartbeats 8000000 in
set_option maxRecDepth 100000 in
theorem orders_main (A0 : Option Addr) (c0 : Nat) (l0 : List (S67)) (cs xs : List S38) (w : World) (hr0 : Kd.C k67 w A0 l0.length l0) (hc0 : l0.length ≤ c0) (hc : event_Calls.f l0 = some (cs, 0)) (hx : xs = donL cs) (hle : xs.length ≤ 16) (wf : List Int) (hwf : wyS xs.length (bfI xs xs.length 0 (List.replicate xs.length 0)) (2 ^ xs.length) 0 ((List.replicate (2 ^ xs.length) 0).set 0 1) = some wf) :
    Calls Try.prog 19 #[.slice A0 l0.length c0] w fun e w' => e = .returned (.tuple #[.int .i64 (rd wf ((2 ^ xs.length - 1 : Nat) : Int)), .int .i64 0]) ∧ Below w.heap.size w w' := by
  have hu38 := Try.underlying38
  have HX0 := Aside0.mk hx
  clear hx
  have hle' : decide ((16 : Int) < (xs.length : Int)) = false := decide_eq_false (by omega)
  obtain ⟨ys, hys⟩ : ∃ ys : List Int, ys = List.replicate (xs.length : Int).toNat 0 := ⟨_, rfl⟩
  have Nys := Aside0.mk hys
  have Hyl := Aside0.mk (show ys.length = xs.length by rw [hys]; simp)
  clear hys
  go_enter Try.func19, Try.ntmps19
  go_wp2_with (first
    | (go_at_call 13; refine (event_Calls.calls A0 c0 l0 cs 0 _ hr0 hc0 hc).mono ?_; rintro e w1 ⟨v1, rfl, ho1, hb1⟩; obtain ⟨A1, c1, rfl⟩ := Kd.S_slice ho1)
    | (go_at_call 50; refine (delete_any A1 c1 _ cs _ ho1 hb1.size).mono ?_; rintro e w2 ⟨rfl, hr2, hb2⟩; rw [← HX0.out] at hr2 ⊢; have HS2 := Aside0.mk hr2; have HB2 : Aside0 (Below w.heap.size w w2) := Aside0.mk (hb1.trans hb2); clear ho1 hb1 hr2 hb2)
    | ((with_reducible refine gate_dst (N := 27) rfl ?_); refine Kd.R_make (Kd.int .i64) _ 3 rfl (N := 27) rfl 41 _ _ rfl (xs.length : Int) rfl rfl Try.underlying41 (.int .i64 0) 8 info3 rfl (by decide) (by omega) 0 (ok := fun _ => True) (okp := fun _ => True) rfl (fun _ hk => hk) trivial (by omega) (by omega) (Below.refl _ _) (Nat.le_refl _) ?_; intro v3 w3 ho3 hb3 hg_ hnew_; clear hg_ hnew_; rw [← Nys.out] at ho3; obtain ⟨A3, c3, rfl⟩ := Kd.R_slice ho3; have HS3 := Aside0.mk (Kd.R_below HS2.out hb3); have HO3 := Aside0.mk (Kd.R_lower ho3 HB2.out.size); have HB3 := Aside0.mk (below_step HB2.out hb3); clear ho3 hb3))
  go_loopw [30] (fun v30 W => ∃ (i : Nat) (bf : List Int), v30 = .int .i64 (i : Int) ∧ i ≤ xs.length ∧ Aside0 (bf.length = ys.length) ∧ Aside0 (bfI xs (xs.length - i) i bf = bfI xs xs.length 0 ys) ∧ Aside0 (Kd.R (Kd.int .i64) 3 W w.heap.size (fun _ => True) (.slice A3 ys.length c3) bf) ∧ Aside0 (Kd.R kw 38 W w.heap.size (fun _ => True) (.slice A1 xs.length c1) xs) ∧ Aside0 (Below w.heap.size w W)) (fun v30 _ => xs.length - (intOf v30).toNat)
  case atStart => exact ⟨0, ys, rfl, Nat.zero_le _, ⟨rfl⟩, ⟨rfl⟩, HO3, HS3, HB3⟩
  case round =>
    obtain ⟨i, bf, rfl, hi, HX, HG, HO, HP, HB⟩ := hrel
    by_cases hlt : i < xs.length
    · have hg := HG.out
      rw [show xs.length - i = (xs.length - (i + 1)) + 1 by omega] at hg
      simp only [bfI] at hg
      have HG2 := Aside0.mk hg
      clear hg HG
      go_wp2
      go_loopw [35] (fun v35 W => ∃ (j : Nat) (b2 : List Int), v35 = .int .i64 (j : Int) ∧ j ≤ xs.length ∧ Aside0 (b2.length = ys.length) ∧ Aside0 (bfJ xs i (xs.length - j) j b2 = bfJ xs i xs.length 0 bf) ∧ Aside0 (Kd.R (Kd.int .i64) 3 W w.heap.size (fun _ => True) (.slice A3 ys.length c3) b2) ∧ Aside0 (Kd.R kw 38 W w.heap.size (fun _ => True) (.slice A1 xs.length c1) xs) ∧ Aside0 (Below w.heap.size w W)) (fun v35 _ => xs.length - (intOf v35).toNat)
      case atStart => exact ⟨0, bf, rfl, Nat.zero_le _, HX, ⟨rfl⟩, HO, HP, HB⟩
      case round =>
        obtain ⟨j, b2, rfl, hj, HX2, HG3, HO2, HP2, HB4⟩ := hrel
        by_cases hlt2 : j < xs.length
        · have hg := HG3.out
          rw [show xs.length - j = (xs.length - (j + 1)) + 1 by omega] at hg
          simp only [bfJ] at hg
          obtain ⟨a, ha⟩ : ∃ a, a = J38 xs (j : Int) := ⟨_, rfl⟩
          obtain ⟨b, hb⟩ : ∃ b, b = J38 xs (i : Int) := ⟨_, rfl⟩
          rw [← ha, ← hb] at hg
          obtain ⟨ad2, _, ea, ⟨A8, n8, c8, rfl⟩, -, y0, y1, y2, y3, y4, y5, y6, y7, y8, y9, y10⟩ := at_Tw (Kd.R_reads' HP2.out).2.2 (j : Int) (by omega) (by omega)
          cases ea
          obtain ⟨ad3, _, ea, ⟨A9, n9, c9, rfl⟩, -, z0, z1, z2, z3, z4, z5, z6, z7, z8, z9, z10⟩ := at_Tw (Kd.R_reads' HP2.out).2.2 (i : Int) (by omega) (by omega)
          cases ea
          rw [← ha] at y0 y1 y2 y3 y4 y5 y6 y7 y9 y10
          rw [← hb] at z0 z1 z2 z3 z4 z5 z6 z7 z9 z10
          simp only [Int.toNat_natCast] at y0 y1 y2 y3 y4 y5 y6 y7 y8 y9 y10 z0 z1 z2 z3 z4 z5 z6 z7 z8 z9 z10
          clear ha hb HG3
          obtain ⟨q, hq⟩ : ∃ q, aheadB a b = q := ⟨_, rfl⟩
          rw [hq] at hg
          have NQ := Aside0.mk hq
          clear hq
          cases q with
          | false =>
            rw [if_neg (by decide)] at hg
            have HG3 := Aside0.mk hg
            clear hg
            go_wp2
            go_region_with (go_at_call 47; refine (ahead_calls a b _ _ _).mono ?_; rintro e w' ⟨rfl, rfl⟩; rw [NQ.out])
            all_goals
              go_wp2
              go_roundw
              case rel => exact ⟨j + 1, b2, by go_num, by omega, HX2, HG3, ⟨Kd.R_alloc (Kd.R_alloc (Kd.R_drew HO2.out) _) _⟩, ⟨Kd.R_alloc (Kd.R_alloc (Kd.R_drew HP2.out) _) _⟩, ⟨below_alloc (below_alloc (below_drew1 HB4.out) _) _⟩⟩
              case measure => simp [intOf]; omega
          | true =>
            rw [if_pos rfl] at hg
            have HG3 := Aside0.mk hg
            clear hg
            obtain ⟨g, cg, eg, hgw, hgl, cG, hG⟩ := Kd.R_form HO2.out (by rw [HX2.out, Hyl.out]; omega)
            rw [HX2.out] at eg
            cases eg
            obtain ⟨ca, fa⟩ := Kd.R_celln (0 : Int) HO2.out (i : Int) (by omega) (by have := Hyl.out; omega)
            replace ca : _ = some (Value.int .i64 (rd b2 (i : Int))) := ca
            simp only [Int.toNat_natCast] at ca fa
            have hiy : i < ys.length := by have := Hyl.out; omega
            have HO5 : Aside0 (Kd.R (Kd.int .i64) 3 (wr.setCell ⟨g, i, none⟩ (.int .i64 (Go.bits .or .i64 (rd b2 (i : Int)) (wrap64 (2 ^ j))))) w.heap.size (fun _ => True) (.slice (some ⟨g, 0, none⟩) ys.length c3) (b2.set i (Go.bits .or .i64 (rd b2 (i : Int)) (wrap64 (2 ^ j))))) := Aside0.mk (Kd.R_putn HO2.out (i : Int) (Go.bits .or .i64 (rd b2 (i : Int)) (wrap64 (2 ^ j))))
            have HP5 := Aside0.mk (Kd.R_set HP2.out hG (by decide) i (.int .i64 (Go.bits .or .i64 (rd b2 (i : Int)) (wrap64 (2 ^ j)))))
            have HB5 := Aside0.mk (below_set (j := i) (v := .int .i64 (Go.bits .or .i64 (rd b2 (i : Int)) (wrap64 (2 ^ j)))) HB4.out hgw)
            go_wp2
            go_region_with (go_at_call 47; refine (ahead_calls a b _ _ _).mono ?_; rintro e w' ⟨rfl, rfl⟩; rw [NQ.out])
            all_goals
              go_wp2
              go_region
              go_wp2
              go_roundw
              case rel => exact ⟨j + 1, _, by go_num, by omega, ⟨by simpa using HX2.out⟩, HG3, ⟨Kd.R_drew (Kd.R_drew (Kd.R_alloc (Kd.R_alloc HO5.out _) _))⟩, ⟨Kd.R_drew (Kd.R_drew (Kd.R_alloc (Kd.R_alloc HP5.out _) _))⟩, ⟨below_drew1 (below_drew1 (below_alloc (below_alloc HB5.out _) _))⟩⟩
              case measure => simp [intOf]; omega
        · have hb2 : b2 = bfJ xs i xs.length 0 bf := by
            have hg := HG3.out
            rw [show xs.length - j = 0 by omega] at hg
            simpa [bfJ] using hg
          go_wp2
          go_roundw
          case rel => exact ⟨i + 1, b2, by go_num, by omega, HX2, ⟨by rw [hb2]; exact HG2.out⟩, HO2, HP2, HB4⟩
          case measure => simp [intOf]; omega
    · have hbf : bf = bfI xs xs.length 0 ys := by
        have hg := HG.out
        rw [show xs.length - i = 0 by omega] at hg
        simpa [bfI] using hg
      have HBF := Aside0.mk hbf
      clear hbf
      obtain ⟨M, hM⟩ : ∃ M : Nat, M = 2 ^ xs.length := ⟨_, rfl⟩
      have hsh : wrap64 ((2 : Int) ^ xs.length) = (M : Int) := by
        have h1 : M ≤ 65536 := by rw [hM]; exact Nat.pow_le_pow_right (n := 2) (by decide) hle
        have h2 : ((2 : Int) ^ xs.length) = (M : Int) := by rw [hM]; simp
        rw [h2]
        unfold wrap64
        omega
      have hM1 : M ≤ 65536 := by rw [hM]; exact Nat.pow_le_pow_right (n := 2) (by decide) hle
      have hM0 : 0 < M := by rw [hM]; exact Nat.pow_pos (by decide)
      obtain ⟨zs, hzs⟩ : ∃ zs : List Int, zs = List.replicate (M : Int).toNat 0 := ⟨_, rfl⟩
      have Nzs := Aside0.mk hzs
      have Hzl := Aside0.mk (show zs.length = M by rw [hzs]; simp)
      have HM := Aside0.mk hM
      have HWF : Aside0 (wyS xs.length bf zs.length 0 (zs.set 0 1) = some wf) := ⟨by
        have h1 : ys = List.replicate xs.length 0 := by rw [Nys.out]; simp
        have h2 : zs = List.replicate (2 ^ xs.length) 0 := by rw [hzs, Int.toNat_natCast, hM]
        rw [HBF.out, h1, h2, List.length_replicate]
        exact hwf⟩
      clear hzs hM HG
      go_wp2_with ((with_reducible refine gate_dst (N := 60) rfl ?_); refine Kd.R_make (Kd.int .i64) _ 3 rfl (N := 60) rfl 41 _ _ rfl (M : Int) ?m1 ?m2 Try.underlying41 (.int .i64 0) 8 info3 rfl (by decide) (by omega) 0 (ok := fun _ => True) (okp := fun _ => True) rfl (fun _ hk => hk) trivial (by omega) (by omega) (Below.refl _ _) (Nat.le_refl _) ?_; (case m1 => exact congrArg (Value.int .i64) hsh); (case m2 => exact congrArg (Value.int .i64) hsh); intro v4 w4 ho4 hb4 hg_ hnew_; clear hg_ hnew_; rw [← Nzs.out] at ho4; obtain ⟨A4, c4, rfl⟩ := Kd.R_slice ho4; have HS4 := Aside0.mk (Kd.R_below HP.out hb4); have HO4 := Aside0.mk (Kd.R_mono (Kd.R_elder' HO.out (Kd.R_base ho4) hb4) (fun _ h => h.2)); have HW4 := Aside0.mk (Kd.R_mono (Kd.R_lower (Kd.R_new' ho4 (Kd.R_lt HO.out)) HB.out.size) (fun _ h => h.2)); have HB4 := Aside0.mk (below_step HB.out hb4); clear ho4 hb4; obtain ⟨g4, cg4, eg4, hgw4, hgl4, cG4, hG4⟩ := Kd.R_form HW4.out (by rw [Hzl.out]; omega); cases eg4; obtain ⟨ca4, fa4⟩ := Kd.R_celln (0 : Int) HW4.out 0 (by decide) (by rw [Hzl.out]; omega); replace ca4 : w4.cell? ⟨g4, 0, none⟩ = some (.int .i64 (rd zs 0)) := ca4; replace fa4 : w4.frozen? ⟨g4, 0, none⟩ = false := fa4; have hz0 : 0 < zs.length := (by rw [Hzl.out]; omega); have HO6 := Aside0.mk (Kd.R_far (p := ⟨g4, 0, none⟩) HO4.out (fun k_ hk e_ => hk (by rw [e_]; rfl)) (.int .i64 1)); have HW6 : Aside0 (Kd.R (Kd.int .i64) 3 (w4.setCell ⟨g4, 0, none⟩ (.int .i64 1)) w.heap.size (fun k_ => some k_ ≠ (Value.slice A3 ys.length c3).ownBlock) (.slice (some ⟨g4, 0, none⟩) zs.length c4) (zs.set 0 1)) := Aside0.mk (Kd.R_putn HW4.out 0 1); have HS6 := Aside0.mk (Kd.R_set HS4.out hG4 (by decide) 0 (.int .i64 1)); have HB6 := Aside0.mk (below_set (j := 0) (v := .int .i64 1) HB4.out hgw4))
      go_loopw [65] (fun v65 W => ∃ (s : Nat) (ws : List Int), v65 = .int .i64 (s : Int) ∧ s ≤ zs.length ∧ Aside0 (ws.length = zs.length) ∧ Aside0 (wyS xs.length bf (zs.length - s) s ws = some wf) ∧ Aside0 (Kd.R (Kd.int .i64) 3 W w.heap.size (fun k_ => some k_ ≠ (Value.slice (some ⟨g4, 0, none⟩) zs.length c4).ownBlock) (.slice A3 ys.length c3) bf) ∧ Aside0 (Kd.R (Kd.int .i64) 3 W w.heap.size (fun k_ => some k_ ≠ (Value.slice A3 ys.length c3).ownBlock) (.slice (some ⟨g4, 0, none⟩) zs.length c4) ws) ∧ Aside0 (Kd.R kw 38 W w.heap.size (fun _ => True) (.slice A1 xs.length c1) xs) ∧ Aside0 (Below w.heap.size w W)) (fun v65 _ => zs.length - (intOf v65).toNat)
      case atStart => exact ⟨0, _, rfl, Nat.zero_le _, ⟨by simp⟩, HWF, HO6, HW6, HS6, HB6⟩
      case round =>
        obtain ⟨s, ws, rfl, hs, HX7, HG7, HO7, HW7, HS7, HB7⟩ := hrel
        by_cases hlt3 : s < zs.length
        · have hsb : s < 65536 := by have := Hzl.out; omega
          obtain ⟨cw, fw⟩ := Kd.R_celln (0 : Int) HW7.out (s : Int) (by omega) (by omega)
          replace cw : _ = some (Value.int .i64 (rd ws (s : Int))) := cw
          simp only [Int.toNat_natCast] at cw fw
          have hg := HG7.out
          rw [show zs.length - s = (zs.length - (s + 1)) + 1 by omega] at hg
          simp only [wyS] at hg
          clear HG7
          by_cases hz : rd ws (s : Int) = 0
          · rw [if_pos hz] at hg
            rw [hz] at cw
            have HG7 := Aside0.mk hg
            clear hg
            go_wp2
            go_roundw
            case rel => exact ⟨s + 1, ws, by go_num, by omega, HX7, HG7, HO7, HW7, HS7, HB7⟩
            case measure => simp [intOf]; omega
          · rw [if_neg hz] at hg
            obtain ⟨wt, hwt, hg⟩ := Option.bind_eq_some_iff.mp hg
            have HG7 := Aside0.mk hg
            have HT := Aside0.mk hwt
            clear hg hwt
            have hz' : (rd ws (s : Int) == 0) = false := by simpa using hz
            go_wp2
            go_loopw [75] (fun v75 W => ∃ (i : Nat) (w2 : List Int), v75 = .int .i64 (i : Int) ∧ i ≤ xs.length ∧ Aside0 (w2.length = zs.length) ∧ Aside0 (wyJ bf s (xs.length - i) i w2 = some wt) ∧ Aside0 (Kd.R (Kd.int .i64) 3 W w.heap.size (fun k_ => some k_ ≠ (Value.slice (some ⟨g4, 0, none⟩) zs.length c4).ownBlock) (.slice A3 ys.length c3) bf) ∧ Aside0 (Kd.R (Kd.int .i64) 3 W w.heap.size (fun k_ => some k_ ≠ (Value.slice A3 ys.length c3).ownBlock) (.slice (some ⟨g4, 0, none⟩) zs.length c4) w2) ∧ Aside0 (Kd.R kw 38 W w.heap.size (fun _ => True) (.slice A1 xs.length c1) xs) ∧ Aside0 (Below w.heap.size w W)) (fun v75 _ => xs.length - (intOf v75).toNat)
            case atStart => exact ⟨0, ws, rfl, Nat.zero_le _, HX7, HT, HO7, HW7, HS7, HB7⟩
            case round =>
              obtain ⟨i2, w2, rfl, hi2, HX8, HG8, HO8, HW8, HS8, HB8⟩ := hrel
              by_cases hlt4 : i2 < xs.length
              · obtain ⟨ad5, ea5, cb⟩ := Kd.at_int (Kd.R_reads' HO8.out).2.2 (i2 : Int) (by omega) (by have := HX.out; have := Hyl.out; omega)
                cases ea5
                simp only [Int.toNat_natCast] at cb
                have hiy2 : i2 < ys.length := by have := Hyl.out; omega
                have hg := HG8.out
                rw [show xs.length - i2 = (xs.length - (i2 + 1)) + 1 by omega] at hg
                simp only [wyJ] at hg
                clear HG8
                by_cases hok : wyOk bf s i2 = true
                · rw [if_pos hok] at hg
                  split at hg
                  rotate_left
                  · simp at hg
                  rename_i hT
                  obtain ⟨hT0, hT1⟩ := hT
                  have HG8 := Aside0.mk hg
                  clear hg
                  unfold wyOk at hok
                  simp only [Bool.and_eq_true, decide_eq_true_eq] at hok
                  obtain ⟨hok1, hok2⟩ := hok
                  obtain ⟨cs, fs⟩ := Kd.R_celln (0 : Int) HW8.out (s : Int) (by omega) (by omega)
                  replace cs : _ = some (Value.int .i64 (rd w2 (s : Int))) := cs
                  simp only [Int.toNat_natCast] at cs fs
                  obtain ⟨ct, ft⟩ := Kd.R_celln (0 : Int) HW8.out (wyT s i2) hT0 (by have := HX8.out; omega)
                  replace ct : _ = some (Value.int .i64 (rd w2 (wyT s i2))) := ct
                  have hT2 : wyT s i2 < (zs.length : Int) := by have := HX8.out; omega
                  have HW9 : Aside0 (Kd.R (Kd.int .i64) 3 (wr.setCell ⟨g4, (wyT s i2).toNat, none⟩ (.int .i64 (wrap64 (rd w2 (wyT s i2) + rd w2 (s : Int))))) w.heap.size (fun k_ => some k_ ≠ (Value.slice (some ad5) ys.length c3).ownBlock) (.slice (some ⟨g4, 0, none⟩) zs.length c4) (w2.set (wyT s i2).toNat (wrap64 (rd w2 (wyT s i2) + rd w2 (s : Int))))) := Aside0.mk (Kd.R_putn HW8.out (wyT s i2) _)
                  have HO9 := Aside0.mk (Kd.R_far (p := ⟨g4, (wyT s i2).toNat, none⟩) HO8.out (fun k_ hk e_ => hk (by rw [e_]; rfl)) (.int .i64 (wrap64 (rd w2 (wyT s i2) + rd w2 (s : Int)))))
                  obtain ⟨_, _, eg9, -, -, cG9, hG9⟩ := Kd.R_form HW8.out (by have := HX8.out; omega)
                  rw [HX8.out] at eg9
                  cases eg9
                  have HS9 := Aside0.mk (Kd.R_set HS8.out hG9 (by decide) (wyT s i2).toNat (.int .i64 (wrap64 (rd w2 (wyT s i2) + rd w2 (s : Int)))))
                  have HB9 := Aside0.mk (below_set (j := (wyT s i2).toNat) (v := .int .i64 (wrap64 (rd w2 (wyT s i2) + rd w2 (s : Int)))) HB8.out hgw4)
                  have hTT : Go.bits .or .i64 (s : Int) (wrap64 (2 ^ i2)) = wyT s i2 := rfl
                  go_wp2
                  go_region
                  go_wp2
                  go_roundw
                  case rel => exact ⟨i2 + 1, _, by go_num, by omega, ⟨by simpa using HX8.out⟩, HG8, ⟨Kd.R_drew HO9.out⟩, ⟨Kd.R_drew HW9.out⟩, ⟨Kd.R_drew HS9.out⟩, ⟨below_drew1 HB9.out⟩⟩
                  case measure => simp [intOf]; omega
                · rw [if_neg hok] at hg
                  have HG8 := Aside0.mk hg
                  clear hg
                  have hok' : wyOk bf s i2 = false := by simpa using hok
                  unfold wyOk at hok'
                  by_cases hok1 : Go.bits .and .i64 ((s : Int) / 2 ^ i2) 1 = 0
                  · have hok2 : (Go.bits .andNot .i64 (rd bf (i2 : Int)) (s : Int) == 0) = false := by simpa [hok1] using hok'
                    clear hok hok'
                    go_wp2
                    go_roundw
                    case rel => exact ⟨i2 + 1, w2, by go_num, by omega, HX8, HG8, HO8, HW8, HS8, HB8⟩
                    case measure => simp [intOf]; omega
                  · clear hok hok'
                    go_wp2
                    go_roundw
                    case rel => exact ⟨i2 + 1, w2, by go_num, by omega, HX8, HG8, HO8, HW8, HS8, HB8⟩
                    case measure => simp [intOf]; omega
              · have hw2 : w2 = wt := by
                  have hg := HG8.out
                  rw [show xs.length - i2 = 0 by omega] at hg
                  simpa [wyJ] using hg
                subst hw2
                go_wp2
                go_roundw
                case rel => exact ⟨s + 1, w2, by go_num, by omega, HX8, HG7, HO8, HW8, HS8, HB8⟩
                case measure => simp [intOf]; omega
        · have hw2 : ws = wf := by
            have hg := HG7.out
            rw [show zs.length - s = 0 by omega] at hg
            simpa [wyS] using hg
          subst hw2
          have hsb : s < 65537 := by have := Hzl.out; omega
          have hzp : 0 < zs.length ∧ zs.length ≤ 65536 := by have := Hzl.out; omega
          obtain ⟨hzp0, hzp1⟩ := hzp
          obtain ⟨cl, fl⟩ := Kd.R_celln (0 : Int) HW7.out ((zs.length - 1 : Nat) : Int) (by omega) (by omega)
          replace cl : _ = some (Value.int .i64 (rd ws ((zs.length - 1 : Nat) : Int))) := cl
          simp only [Int.toNat_natCast] at cl
          have hml : ((2 ^ xs.length - 1 : Nat) : Int) = ((zs.length - 1 : Nat) : Int) := by have := Hzl.out; have := HM.out; omega
          have HML := Aside0.mk hml
          clear hml
          go_wp2
          go_ret2
          exact ⟨by first | (rw [HML.out]; done) | (rw [HML.out]; rfl) | (rw [← HML.out]; rfl) | (have := HML.out; simp only [this]), HB7.out⟩
def event_Orders.f (l0 : List S67) : Option (Int × Int) :=
  (event_Calls.f l0).bind fun t => if t.2 = 0 then (if (donL t.1).length > 16 then some (0, 2) else
    (wyS (donL t.1).length (bfI (donL t.1) (donL t.1).length 0 (List.replicate (donL t.1).length 0)) (2 ^ (donL t.1).length) 0 ((List.replicate (2 ^ (donL t.1).length) 0).set 0 1)).map fun wf => (rd wf ((2 ^ (donL t.1).length - 1 : Nat) : Int), 0)) else some (0, t.2)
set_option maxHeartbeats 8000000 in
set_option maxRecDepth 100000 in
theorem event_Orders.calls (A0 : Option Addr) (c0 : Nat) (l0 : List (S67)) (r1 : Int) (r2 : Int) (w : World) (hr0 : Kd.C k67 w A0 l0.length l0) (hc0 : l0.length ≤ c0) (h : event_Orders.f l0 = some (r1, r2)) :
    Calls Try.prog 19 #[.slice A0 l0.length c0] w fun e w' => e = .returned (.tuple #[.int .i64 r1, .int .i64 r2]) ∧ Below w.heap.size w w' := by
  unfold event_Orders.f at h
  obtain ⟨⟨cs, e⟩, hc, h⟩ := Option.bind_eq_some_iff.mp h
  simp only at h
  by_cases he : e = 0
  · subst he
    rw [if_pos rfl] at h
    obtain ⟨xs, hx⟩ : ∃ xs, xs = donL cs := ⟨_, rfl⟩
    have HX0 := Aside0.mk hx
    rw [← hx] at h
    clear hx
    by_cases hl : xs.length > 16
    · rw [if_pos hl] at h
      cases h
      have hl' : decide ((16 : Int) < (xs.length : Int)) = true := decide_eq_true (by omega)
      go_enter Try.func19, Try.ntmps19
      go_wp2_with (first
        | (go_at_call 13; refine (event_Calls.calls A0 c0 l0 cs 0 _ hr0 hc0 hc).mono ?_; rintro e w1 ⟨v1, rfl, ho1, hb1⟩; obtain ⟨A1, c1, rfl⟩ := Kd.S_slice ho1)
        | (go_at_call 50; refine (delete_any A1 c1 _ cs _ ho1 hb1.size).mono ?_; rintro e w2 ⟨rfl, hr2, hb2⟩; rw [← HX0.out]; have HB2 : Aside0 (Below w.heap.size w w2) := Aside0.mk (hb1.trans hb2); clear ho1 hb1 hr2 hb2))
      go_ret2
      exact ⟨rfl, HB2.out⟩
    · rw [if_neg hl] at h
      obtain ⟨wf, hwf, h⟩ := Option.map_eq_some_iff.mp h
      cases h
      exact orders_main A0 c0 l0 cs xs w hr0 hc0 hc HX0.out (by omega) wf hwf
  · rw [if_neg he] at h
    cases h
    have he' : (r2 != 0) = true := by simpa using he
    go_enter Try.func19, Try.ntmps19
    go_wp2_with (go_at_call 13; refine (event_Calls.calls A0 c0 l0 cs r2 _ hr0 hc0 hc).mono ?_; rintro e w1 ⟨v1, rfl, ho1, hb1⟩)
    go_ret2
    exact ⟨rfl, hb1⟩
end Go.Proofs.Ytagdkmcgepidoaa.P
