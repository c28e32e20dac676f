/- P.eventApart_holds, part 22 of 41: the contracts of the Go functions that the law calls, its own walk, and its plain law, for every input that the statement speaks of. -/
import Derived.Test.YtagdkmcgepidoaaMAp11
import Derived.Test.YtagdkmcgepidoaaMAp12
set_option linter.unusedVariables false
set_option linter.unusedSimpArgs false
/- KOf -/
namespace Go.Proofs.Ytagdkmcgepidoaa.P
open Go.RowKit Go.Proofs.YtagdkmcgepidoaaW.PrintWords Go.Proofs.YtagdkmcgepidoaaW.PrintLast Go.Proofs.YtagdkmcgepidoaaW.PrintMore
set_option maxHeartbeats 8000000 in
set_option maxRecDepth 100000 in
theorem keptOf_calls (A0 : Option Addr) (c0 : Nat) (l0 : List S67) (vh vt : Value) (p : Nat → Bool) (w : World) (hr0 : Kd.C k67 w A0 l0.length l0) (hc0 : l0.length ≤ c0) (hl : l0.length ≤ 100000) (hps : ∀ e ∈ l0, e.f3.f3.length ≤ 1048576)
    (hpred : ∀ (W : World), Below w.heap.size w W → ∀ i : Nat, i < l0.length → Calls Try.prog 53 #[.int .i64 (i : Int), vh, vt] W fun e w' => e = .returned (.bool (p i)) ∧ Below W.heap.size W w') :
    Calls Try.prog 52 #[.slice A0 l0.length c0, .func (.func 53) #[] #[vh, vt]] w fun e w' => ∃ v0_ : Value, e = .returned (v0_) ∧ Kd.S k67 67 w' w.heap.size (fun _ => True) v0_ (keptL p l0 l0.length 0 []) ∧ Below w.heap.size w w' := by
  have hu67 := Try.underlying67
  have hu36 := Try.underlying36
  have hu33 := Try.underlying33
  obtain ⟨r, hr⟩ : ∃ r, keptL p l0 l0.length 0 [] = r := ⟨_, rfl⟩
  rw [hr]
  have HR := Aside0.mk hr
  clear hr
  go_enter Try.func52, Try.ntmps52
  go_wp2
  go_loopw [5, 10] (fun v5 v10 W => ∃ (j : Nat) (out : List S67), v10 = .int .i64 (j : Int) ∧ j ≤ l0.length ∧ Aside0 (out.length ≤ j) ∧ Aside0 (keptL p l0 (l0.length - j) j out = r) ∧ Aside0 (Kd.S k67 67 W w.heap.size (fun _ => True) v5 out) ∧ Aside0 (Below w.heap.size w W)) (fun _ v10 _ => l0.length - (intOf v10).toNat)
  case atStart => exact ⟨0, [], rfl, Nat.zero_le _, ⟨Nat.le_refl _⟩, HR, ⟨Kd.S_nil _ _ _ _ _⟩, ⟨Below.refl _ _⟩⟩
  case round =>
    obtain ⟨j, out, rfl, hj, HX, HG, HP, HB⟩ := hrel
    by_cases hlt : j < l0.length
    · have hg := HG.out
      rw [show l0.length - j = (l0.length - (j + 1)) + 1 by omega] at hg
      simp only [keptL] at hg
      obtain ⟨n, hn⟩ : ∃ n, n = J67 l0 (j : Int) := ⟨_, rfl⟩
      rw [← hn] at hg
      have hin : n ∈ l0 := by
        rw [hn]
        unfold J67
        rw [Int.toNat_natCast, List.getD_eq_getElem?_getD, List.getElem?_eq_getElem (by omega)]
        exact List.getElem_mem _
      have HPS := Aside0.mk (hps n hin)
      obtain ⟨ad2, A9, c9, ea, y0, y1, y2, y3, y4, y5, y6, y7, y8, y9, hc9, hr9⟩ := at_T67 (Kd.C_below hr0 HB.out) (j : Int) (by omega) (by omega)
      cases ea
      rw [← hn] at y0 y1 y2 y3 y4 y5 y6 y7 y8 y9 hc9 hr9
      simp only [Int.toNat_natCast] at y0 y1 y2 y3 y4 y5 y6 y7 y8 y9
      clear hn HG hin
      obtain ⟨A3, c3, rfl⟩ := Kd.S_slice HP.out
      obtain ⟨b, hb⟩ : ∃ b, p j = b := ⟨_, rfl⟩
      rw [hb] at hg
      have NB := Aside0.mk hb
      clear hb
      have HG := Aside0.mk hg
      clear hg
      cases b with
      | false =>
        go_wp2_with (go_at_call 53; refine (hpred _ (below_alloc HB.out _) j hlt).mono ?_; rintro e w2 ⟨rfl, hb2⟩; rw [NB.out])
        go_roundw
        case rel => exact ⟨j + 1, out, by go_num, by omega, ⟨by have := HX.out; omega⟩, ⟨by have := HG.out; simpa using this⟩, ⟨Kd.S_below (Kd.S_alloc HP.out _) hb2⟩, ⟨below_step (below_alloc HB.out _) hb2⟩⟩
        case measure => simp [intOf]; omega
      | true =>
        have HC := Aside0.mk (show event_own.f n.f0 n.f1 n.f2.f0 n.f2.f1 n.f2.f2 n.f2.f3 n.f3.f0 n.f3.f1 n.f3.f2 n.f3.f3 = some (n.f0, n.f1, n.f2.f0, n.f2.f1, n.f2.f2, n.f2.f3, n.f3.f0, n.f3.f1, n.f3.f2, n.f3.f3) by unfold event_own.f api_Pair_73.f; rw [if_pos (by have := HPS.out; omega)]; rfl)
        go_wp2_with (first
          | (go_at_call 53; refine (hpred _ (below_alloc HB.out _) j hlt).mono ?_; rintro e w2 ⟨rfl, hb2⟩; rw [NB.out]; have hk := blk_below (blk_new wr (.cells #[.int .i64 n.f0, .bool n.f1, .int .i64 n.f2.f0, .int .i64 n.f2.f1, .int .i64 n.f2.f2, .int .i64 n.f2.f3, .bool n.f3.f0, .int .i64 n.f3.f1, .int .i64 n.f3.f2, .slice A9 n.f3.f3.length c9] 67)) hb2; have q0 := (blk_cell hk 0).trans rfl; have q1 := (blk_cell hk 1).trans rfl; have q2 := (blk_cell hk 2).trans rfl; have q3 := (blk_cell hk 3).trans rfl; have q4 := (blk_cell hk 4).trans rfl; have q5 := (blk_cell hk 5).trans rfl; have q6 := (blk_cell hk 6).trans rfl; have q7 := (blk_cell hk 7).trans rfl; have q8 := (blk_cell hk 8).trans rfl; have q9 := (blk_cell hk 9).trans rfl; simp at q0 q1 q2 q3 q4 q5 q6 q7 q8 q9; have HP2 := Aside0.mk (Kd.S_below (Kd.S_alloc HP.out _) hb2); have HB2 := Aside0.mk (below_step (below_alloc HB.out _) hb2); have hr92 := Kd.C_below (Kd.C_alloc hr9 _) hb2; clear hk hb2)
          | (go_at_call 67; refine (event_own.calls n.f0 n.f1 n.f2.f0 n.f2.f1 n.f2.f2 n.f2.f3 n.f3.f0 n.f3.f1 n.f3.f2 A9 c9 n.f3.f3 _ _ _ _ _ _ _ _ _ _ _ hr92 hc9 HC.out).mono ?_; rintro e w3 ⟨v9, rfl, ho9, hb9⟩; obtain ⟨A10, c10, rfl⟩ := Kd.R_slice ho9; have HP3 := Aside0.mk (Kd.S_old HP2.out hb9); have HO3 := Aside0.mk ho9; have HB3 := Aside0.mk (below_step HB2.out hb9); clear ho9 hb9)
          | ((with_reducible refine gate_builtin (b := .append) (xs := #[.tmp 18, .tmp 21]) rfl ?_); at_builtin; refine Kd.S_append k67 (w0 := w) w.heap.size rfl (.tmp 18) (.tmp 21) 22 67 (.agg #[(.int .i64 0), (.bool false), (.int .i64 0), (.int .i64 0), (.int .i64 0), (.int .i64 0), (.bool false), (.int .i64 0), (.int .i64 0), (.slice none 0 0)]) 96 rfl Try.underlying22 info67 rfl (by decide) (by omega) _ out n [.int .i64 n.f0, .bool n.f1, .int .i64 n.f2.f0, .int .i64 n.f2.f1, .int .i64 n.f2.f2, .int .i64 n.f2.f3, .bool n.f3.f0, .int .i64 n.f3.f1, .int .i64 n.f3.f2, .slice A10 n.f3.f3.length c10] (fun _ => True) (fun k => w2.heap.size ≤ k) rfl ?eL ?aP ?aK ?aF ?aO ?aB ?aS ?aL ?_; (case eL => first | rfl | (show Value.slice _ 1 1 = Value.slice _ 1 1; simp)); (case aP => exact k67_mkM _ _ _ n (Kd.R_lower (Kd.R_mono (Kd.R_bound HO3.out) (fun k hk => hk.2.1)) HB2.out.size)); (case aK => exact fun k hk => ⟨trivial, fun e_ => by have := ((Kd.S_R HP3.out).1 k e_.symm).2; omega⟩); (case aF => exact fun _ _ => trivial); (case aO => exact Kd.S_mono HP3.out (fun k hk => ⟨trivial, by have := hk.2; omega⟩)); (case aB => exact HB3.out); (case aS => exact HB3.out.size); (case aL => have := HX.out; omega); intro v5 w5 ho5 hb5 hg5 hat5; have HP5 := Aside0.mk ho5; have HB5 := Aside0.mk hb5; clear ho5 hb5 hg5 hat5))
        go_roundw
        case rel => exact ⟨j + 1, _, by go_num, by omega, ⟨by have := HX.out; simp; omega⟩, ⟨by have := HG.out; simpa using this⟩, HP5, HB5⟩
        case measure => simp [intOf]; omega
    · go_wp2
      go_ret
      have hg := HG.out
      rw [show l0.length - j = 0 by omega] at hg
      simp only [keptL] at hg
      subst hg
      exact ⟨_, rfl, HP.out, HB.out⟩
end Go.Proofs.Ytagdkmcgepidoaa.P
