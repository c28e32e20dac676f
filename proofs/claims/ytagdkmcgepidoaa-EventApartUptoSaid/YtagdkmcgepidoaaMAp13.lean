/- P.eventApart_holds, part 14 of 41: the contracts of the Go functions that the law calls, its own walk, and its plain law, for every input that the statement speaks of. -/
import Derived.Test.YtagdkmcgepidoaaMAp9
import Derived.Test.YtagdkmcgepidoaaMAp12
set_option linter.unusedVariables false
set_option linter.unusedSimpArgs false
/- E2 -/
namespace Go.Proofs.Ytagdkmcgepidoaa.P
open Go.RowKit Go.Proofs.YtagdkmcgepidoaaW.PrintWords Go.Proofs.YtagdkmcgepidoaaW.PrintLast Go.Proofs.YtagdkmcgepidoaaW.PrintMore
attribute [local go_sem] field67
def callsGo (l0 : List S67) : Nat → Nat → List Int → List S38 → Option (List S38)
  | 0, _, _, out => some out
  | d + 1, j, last, out =>
    if 0 ≤ (J67 l0 (j : Int)).f0 ∧ (J67 l0 (j : Int)).f0 < 64 then
      (if (J67 l0 (j : Int)).f1 = true then
        (if (0 ≤ rd last (J67 l0 (j : Int)).f0 ∧ rd last (J67 l0 (j : Int)).f0 < (out.length : Int)) ∧ (J67 l0 (j : Int)).f3.f3.length < 8796093022208 then
          callsGo l0 d (j + 1) last (out.set (rd last (J67 l0 (j : Int)).f0).toNat ⟨(J38 out (rd last (J67 l0 (j : Int)).f0)).f0, (J38 out (rd last (J67 l0 (j : Int)).f0)).f1, (J67 l0 (j : Int)).f3, (J38 out (rd last (J67 l0 (j : Int)).f0)).f3, (j : Int)⟩)
        else none)
      else (if out.length < 1000000000 then callsGo l0 d (j + 1) (last.set (J67 l0 (j : Int)).f0.toNat (out.length : Int)) (out ++ [⟨(J67 l0 (j : Int)).f0, (J67 l0 (j : Int)).f2, z36, (j : Int), -1⟩]) else none))
    else none
def event_calls.f (l0 : List S67) : Option (List S38) := callsGo l0 l0.length 0 (List.replicate 64 0) []
set_option maxHeartbeats 8000000 in
set_option maxRecDepth 100000 in
theorem event_calls.calls (A0 : Option Addr) (c0 : Nat) (l0 : List (S67)) (r : List (S38)) (w : World) (hr0 : Kd.C k67 w A0 l0.length l0) (hc0 : l0.length ≤ c0) (h : event_calls.f l0 = some r) :
    Calls Try.prog 46 #[.slice A0 l0.length c0] w fun e w' => ∃ v0_ : Value, e = .returned (v0_) ∧ Kd.S k38 38 w' w.heap.size (fun _ => True) v0_ r ∧ Below w.heap.size w w' := by
  have hu67 := Try.underlying67
  have hu38 := Try.underlying38
  have hu36 := Try.underlying36
  have hu33 := Try.underlying33
  have hmx : l0.length ≤ 9223372036854775807 := hr0.2.1
  unfold event_calls.f at h
  have HR := Aside0.mk h
  clear h
  go_enter Try.func46, Try.ntmps46
  go_wp2
  go_loopw [3, 10] (fun v3 v10 W => ∃ (j : Nat) (last : List Int) (out : List S38), v10 = .int .i64 (j : Int) ∧ j ≤ l0.length ∧ Aside0 (last.length = 64) ∧ Aside0 (callsGo l0 (l0.length - j) j last out = some r) ∧ Aside0 (Kd.R (Kd.int .i64) 96 W w.heap.size (fun _ => True) (.slice (some ⟨w.heap.size, 0, none⟩) 64 64) last) ∧ Aside0 (Kd.S k38 38 W w.heap.size (fun _ => True) v3 out) ∧ Aside0 (Below w.heap.size w W)) (fun _ v10 _ => l0.length - (intOf v10).toNat)
  case atStart => exact ⟨0, _, [], rfl, Nat.zero_le _, ⟨by simp⟩, HR, ⟨R_array0 (Kd.int .i64) (Nat.le_refl _) 96 (.int .i64 0) 64 0 rfl (by decide) _ z64i (fun _ => rfl) (by decide)⟩, ⟨Kd.S_nil _ _ _ _ _⟩, ⟨below_alloc (Below.refl _ _) _⟩⟩
  case round =>
    obtain ⟨j, last, out, rfl, hj, HX, HG, HO, HP, HB⟩ := hrel
    by_cases hlt : j < l0.length
    · have hg := HG.out
      rw [show l0.length - j = (l0.length - (j + 1)) + 1 by omega] at hg
      simp only [callsGo] at hg
      obtain ⟨n, hn⟩ : ∃ n, n = J67 l0 (j : Int) := ⟨_, rfl⟩
      rw [← hn] at hg
      split at hg
      rotate_left
      · simp at hg
      rename_i hth
      obtain ⟨ad2, A9, c9, ea, y0, y1, y2, y3, y4, y5, y6, y7, y8, y9, hc9, hr9⟩ := at_T67 (Kd.C_below hr0 HB.out) (j : Int) (by omega) (by omega)
      cases ea
      rw [← hn] at y0 y1 y2 y3 y4 y5 y6 y7 y8 y9 hc9 hr9
      simp only [Int.toNat_natCast] at y0 y1 y2 y3 y4 y5 y6 y7 y8 y9
      have HN_ := Aside0.mk hn
      obtain ⟨_, _, ea, -, hga, ccells, hcells⟩ := Kd.R_form HO.out (by rw [HX.out]; decide)
      rw [HX.out] at ea
      cases ea
      obtain ⟨ca, fa⟩ := Kd.R_celln (0 : Int) HO.out n.f0 hth.1 (by omega)
      obtain ⟨t0, t1⟩ := hth
      replace ca : wr.cell? ⟨w.heap.size, n.f0.toNat, none⟩ = some (.int .i64 (rd last n.f0)) := ca
      clear hn HG
      by_cases hret : n.f1 = true
      · rw [if_pos hret] at hg
        rw [hret] at y1
        split at hg
        rotate_left
        · simp at hg
        rename_i hk
        obtain ⟨⟨k0, k1⟩, k2⟩ := hk
        have HG := Aside0.mk hg
        clear hg
        obtain ⟨g, cap, eg, hgb, hgl, -⟩ := Kd.S_form HP.out (by omega)
        cases eg
        obtain ⟨k, hkk⟩ : ∃ k, k = rd last n.f0 := ⟨_, rfl⟩
        rw [← hkk] at ca k0 k1 HG
        have HK := Aside0.mk hkk
        have HC := Aside0.mk (show event_own.f n.f0 true n.f2.f0 n.f2.f1 n.f2.f2 n.f2.f3 n.f3.f0 n.f3.f1 n.f3.f2 n.f3.f3 = some (n.f0, true, n.f2.f0, n.f2.f1, n.f2.f2, n.f2.f3, n.f3.f0, n.f3.f1, n.f3.f2, n.f3.f3) by unfold event_own.f api_Pair_73.f; rw [if_pos k2]; rfl)
        clear hkk
        go_wp2_with (go_at_call 67; refine (event_own.calls n.f0 true n.f2.f0 n.f2.f1 n.f2.f2 n.f2.f3 n.f3.f0 n.f3.f1 n.f3.f2 A9 c9 n.f3.f3 _ _ _ _ _ _ _ _ _ _ _ ?s1 hc9 HC.out).mono ?_; (case s1 => exact Kd.C_alloc hr9 _); rintro e w2 ⟨v9, rfl, ho9, hb9⟩; obtain ⟨A2, c2, rfl⟩ := Kd.R_slice ho9; obtain ⟨hfr, hS2, hgr⟩ := S_ret38 n.f3 (Kd.S_mono (Kd.S_old (Kd.S_alloc HP.out _) hb9) (fun _ hk => hk.2)) ho9 (below_alloc HB.out _).size k k0 k1 (j : Int); have HS2 := Aside0.mk hS2; have HO2 := Aside0.mk (Kd.R_over' (Kd.R_below (Kd.R_alloc HO.out _) hb9) (Kd.S_typed (Kd.S_below (Kd.S_alloc HP.out _) hb9)) (by decide) hgr); have HB2 := Aside0.mk ((below_step (below_alloc HB.out _) hb9).grown hgr (below_step (below_alloc HB.out _) hb9).size (fun k hk => by cases hk; exact hgb)); obtain ⟨⟨u5, x5⟩, z5⟩ := hfr 5 (by decide) (.inl (by decide)); obtain ⟨⟨u6, x6⟩, z6⟩ := hfr 6 (by decide) (.inl (by decide)); obtain ⟨⟨u7, x7⟩, z7⟩ := hfr 7 (by decide) (.inl (by decide)); obtain ⟨⟨u8, x8⟩, z8⟩ := hfr 8 (by decide) (.inl (by decide)); obtain ⟨⟨u10, x10⟩, z10⟩ := hfr 10 (by decide) (.inr rfl); clear hfr hS2 hgr ho9)
        go_roundw
        case rel => exact ⟨j + 1, last, _, by go_num, by omega, HX, HG, HO2, HS2, HB2⟩
        case measure => simp [intOf]; omega
      · rw [if_neg hret] at hg
        have hret' : n.f1 = false := by simpa using hret
        rw [hret'] at y1
        split at hg
        rotate_left
        · simp at hg
        rename_i hol
        have HL := Aside0.mk hol
        have HG := Aside0.mk hg
        clear hg hol
        obtain ⟨A3, c3, rfl⟩ := Kd.S_slice HP.out
        have HO2 := Aside0.mk (Kd.R_putn HO.out n.f0 (out.length : Int))
        have HP2 := Aside0.mk (Kd.S_set HP.out hcells (by decide) n.f0.toNat (.int .i64 (out.length : Int)))
        have HB2 := Aside0.mk (below_set (j := n.f0.toNat) (v := .int .i64 (out.length : Int)) HB.out (Nat.le_refl w.heap.size))
        go_wp2_with ((with_reducible refine gate_builtin (b := .append) (xs := #[.tmp 38, .tmp 45]) rfl ?_); at_builtin; refine Kd.S_append k38 (w0 := w) w.heap.size rfl (.tmp 38) (.tmp 45) 24 38 (.agg #[(.int .i64 0), (.int .i64 0), (.int .i64 0), (.int .i64 0), (.int .i64 0), (.bool false), (.int .i64 0), (.int .i64 0), (.slice none 0 0), (.int .i64 0), (.int .i64 0)]) 104 rfl Try.underlying24 info38 rfl (by decide) (by omega) _ out (⟨n.f0, n.f2, z36, (j : Int), -1⟩ : S38) [.int .i64 n.f0, .int .i64 n.f2.f0, .int .i64 n.f2.f1, .int .i64 n.f2.f2, .int .i64 n.f2.f3, .bool false, .int .i64 0, .int .i64 0, .slice none 0 0, .int .i64 (j : Int), .int .i64 (-1)] (fun _ => True) (fun _ => False) rfl ?eL ?aP (fun _ hk => hk.elim) ?aF ?aO ?aB ?aS ?aL ?_; (case eL => first | rfl | (show Value.slice _ 1 1 = Value.slice _ 1 1; simp)); (case aP => exact k38_mkM _ _ _ (⟨n.f0, n.f2, z36, (j : Int), -1⟩ : S38) (Kd.R_nil _ _ _ _ _)); (case aF => exact fun _ _ => trivial); (case aO => exact Kd.S_mono (Kd.S_alloc HP2.out _) (fun _ _ => ⟨trivial, fun h => h⟩)); (case aB => exact below_alloc HB2.out _); (case aS => exact (below_alloc HB2.out _).size); (case aL => have := HL.out; omega); intro v5 w5 ho5 hb5 hg5 hat5; have HO3 := Aside0.mk (Kd.R_over' (Kd.R_alloc HO2.out _) (Kd.S_typed (Kd.S_alloc HP2.out _)) (by decide) hg5); have HP3 := Aside0.mk ho5; have HB3 := Aside0.mk hb5; clear ho5 hb5 hg5 hat5)
        go_roundw
        case rel => exact ⟨j + 1, _, _, by go_num, by omega, ⟨by simpa using HX.out⟩, HG, HO3, HP3, HB3⟩
        case measure => simp [intOf]; omega
    · go_wp2
      go_ret
      have hg := HG.out
      rw [show l0.length - j = 0 by omega] at hg
      simp only [callsGo, Option.some.injEq] at hg
      subst hg
      exact ⟨_, rfl, HP.out, HB.out⟩
end Go.Proofs.Ytagdkmcgepidoaa.P
