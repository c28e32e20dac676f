/- P.weighMemory_holds, part 18 of 28: the contracts of the Go functions that the law calls, its own walk, and its plain law, for every input that the statement speaks of. -/
import Derived.Test.YtmmjkebboonnkaaMMe5
import Derived.Test.YtmmjkebboonnkaaMMe15
set_option linter.unusedVariables false
set_option linter.unusedSimpArgs false
/- E3 -/
namespace Go.Proofs.Ytmmjkebboonnkaa.P
open Go.RowKit Go.Proofs.YtmmjkebboonnkaaW.PrintWords Go.Proofs.YtmmjkebboonnkaaW.PrintLast Go.Proofs.YtmmjkebboonnkaaW.PrintMore
def pickGo (is : Int → Int → Option Bool) (ord par : List Int) : Nat → Nat → List Int → Option (List Int)
  | 0, _, out => some out
  | d + 1, j, out =>
    if 0 ≤ rd ord (j : Int) ∧ rd ord (j : Int) < (par.length : Int) ∧ out.length < 17592186044416 then
      (is (rd ord (j : Int)) (if j = 0 then -1 else rd par (rd ord (j : Int)))).bind fun b => pickGo is ord par d (j + 1) (if b then out ++ [rd ord (j : Int)] else out)
    else none
def redIs (l0 : List S49) (at_ p : Int) : Option Bool :=
  if p < 0 then some false else
  if 0 ≤ at_ ∧ at_ < (l0.length : Int) then
    if (J49 l0 at_).f2 = 0 then (if p < (l0.length : Int) then some ((J49 l0 p).f2 == 0) else none) else some false
  else none
def overIs (l0 : List S49) (at_ _p : Int) : Option Bool := if 0 ≤ at_ ∧ at_ < (l0.length : Int) then some (decide (1 < (J49 l0 at_).f2)) else none
def pickedF (is : Int → Int → Option Bool) (k : Nat) (l0 : List (S49)) : Option (List Int × Int) :=
  (weigh_keys.f k l0).bind fun r => if r.2.2 = 0 then ((pickGo is r.1 r.2.1 r.1.length 0 []).map fun o => (o, 0)) else some ([], r.2.2)
def weigh_Reds.f (k : Nat) (l0 : List (S49)) : Option (List Int × Int) := pickedF (redIs l0) k l0
def weigh_Overs.f (k : Nat) (l0 : List (S49)) : Option (List Int × Int) := pickedF (overIs l0) k l0
theorem red1_calls (l0 : List S49) (at_ p : Int) (b : Bool) (A0 : Option Addr) (c0 : Nat) (g : Nat) (W : World) (hr0 : Kd.C k49 W A0 l0.length l0) (hc : W.cell? ⟨g, 0, none⟩ = some (.slice A0 l0.length c0)) (h : redIs l0 at_ p = some b) :
    Calls Try.prog 45 #[.int .i64 at_, .int .i64 p, .pointer (some ⟨g, 0, none⟩)] W fun e W' => e = .returned (.bool b) ∧ W = W' := by
  have hu49 := Try.underlying49
  unfold redIs at h
  by_cases h1 : p < 0
  · rw [if_pos h1] at h
    cases h
    go_enter Try.func45, Try.ntmps45
    go_wp2
    go_ret
    exact ⟨rfl, rfl⟩
  · rw [if_neg h1] at h
    have h1' : 0 ≤ p := by omega
    split at h
    · rename_i h2
      obtain ⟨h2, h3⟩ := h2
      obtain ⟨ad, ea, x0, x1, x2, x3, x4, x5⟩ := at_T49 hr0 at_ h2 h3
      cases ea
      by_cases h4 : (J49 l0 at_).f2 = 0
      · rw [if_pos h4] at h
        have h4' : ((J49 l0 at_).f2 == 0) = true := by simpa using h4
        clear h4
        split at h
        · rename_i h5
          cases h
          obtain ⟨ad, ea, y0, y1, y2, y3, y4, y5⟩ := at_T49 hr0 p h1' h5
          cases ea
          go_enter Try.func45, Try.ntmps45
          go_wp2
          go_ret
          exact ⟨rfl, rfl⟩
        · simp at h
      · rw [if_neg h4] at h
        have h4' : ((J49 l0 at_).f2 == 0) = false := by simpa using h4
        cases h
        go_enter Try.func45, Try.ntmps45
        go_wp2
        go_ret
        exact ⟨rfl, rfl⟩
    · simp at h
theorem over1_calls (l0 : List S49) (at_ p : Int) (b : Bool) (A0 : Option Addr) (c0 : Nat) (g : Nat) (W : World) (hr0 : Kd.C k49 W A0 l0.length l0) (hc : W.cell? ⟨g, 0, none⟩ = some (.slice A0 l0.length c0)) (h : overIs l0 at_ p = some b) :
    Calls Try.prog 48 #[.int .i64 at_, .int .i64 p, .pointer (some ⟨g, 0, none⟩)] W fun e W' => e = .returned (.bool b) ∧ W = W' := by
  have hu49 := Try.underlying49
  unfold overIs at h
  split at h
  · rename_i h2
    obtain ⟨h2, h3⟩ := h2
    obtain ⟨ad, ea, x0, x1, x2, x3, x4, x5⟩ := at_T49 hr0 at_ h2 h3
    cases ea
    cases h
    go_enter Try.func48, Try.ntmps48
    go_wp2
    go_ret
    exact ⟨rfl, rfl⟩
  · simp at h
set_option maxHeartbeats 8000000 in
set_option maxRecDepth 100000 in
theorem picked_calls (F : Nat) (hF : F = 45 ∨ F = 48) (is : Int → Int → Option Bool) (cp0 : Value) (k : Nat) (A0 : Option Addr) (c0 : Nat) (l0 : List (S49)) (r1 : List Int) (r2 : Int) (w : World) (hr0 : Kd.C k49 w A0 l0.length l0) (hc0 : l0.length ≤ c0)
    (hcl : ∀ (at_ p : Int) (b : Bool) (W : World), Below w.heap.size w W → is at_ p = some b → Calls Try.prog F #[.int .i64 at_, .int .i64 p, cp0] W fun e W' => e = .returned (.bool b) ∧ W = W')
    (h : pickedF is k l0 = some (r1, r2)) :
    Calls Try.prog 44 #[.slice A0 l0.length c0, .func (.func F) #[] #[cp0]] w fun e w' => ∃ v0_ : Value, e = .returned (.tuple #[v0_, .int .i64 r2]) ∧ Kd.R (Kd.int .i64) 3 w' w.heap.size (fun _ => True) v0_ r1 ∧ Below w.heap.size w w' := by
  unfold pickedF at h
  obtain ⟨⟨ord, par, e⟩, he, h⟩ := Option.bind_eq_some_iff.mp h
  dsimp only at h
  have HE := Aside0.mk he
  clear he
  by_cases e0 : e = 0
  · rw [if_pos e0] at h
    subst e0
    obtain ⟨o, ho, h⟩ := Option.map_eq_some_iff.mp h
    simp only [Prod.mk.injEq] at h
    obtain ⟨rfl, rfl⟩ := h
    have H := Aside0.mk ho
    clear ho
    have HCL := Aside0.mk hcl
    clear hcl
    go_enter Try.func44, Try.ntmps44
    go_wp2_with (go_at_call 51; (with_reducible refine (weigh_keys.calls k _ _ l0 ord par 0 _ ?s1 ?s2 HE.out).mono ?_); (case s1 => exact hr0); (case s2 => exact hc0); rintro e w1 ⟨v1, v2, rfl, ho1, ho2, hb1⟩; obtain ⟨A1, c1, rfl⟩ := Kd.R_slice ho1; obtain ⟨A2, c2, rfl⟩ := Kd.R_slice ho2; have HO1 := Aside0.mk ho1; have HO2 := Aside0.mk ho2; have HB1 := Aside0.mk hb1; have hmx : ord.length ≤ 9223372036854775807 := Kd.C_max (Kd.R_reads' ho1).2.2; clear ho1 ho2 hb1)
    go_loopw [9, 24] (fun v9 v24 W => ∃ (j : Nat) (xs : List Int), v24 = .int .i64 (j : Int) ∧ j ≤ ord.length ∧ Aside0 (pickGo is ord par (ord.length - j) j xs = some o) ∧ Aside0 (Kd.R (Kd.int .i64) 3 W w.heap.size (fun k_ => some k_ ≠ v9.ownBlock) (.slice A1 ord.length c1) ord) ∧ Aside0 (Kd.R (Kd.int .i64) 3 W w.heap.size (fun k_ => some k_ ≠ v9.ownBlock) (.slice A2 par.length c2) par) ∧ Aside0 (Kd.R (Kd.int .i64) 3 W w.heap.size (fun k_ => some k_ ≠ (Value.slice A1 ord.length c1).ownBlock ∧ some k_ ≠ (Value.slice A2 par.length c2).ownBlock) v9 xs) ∧ Aside0 (Below w.heap.size w W)) (fun _ v24 _ => ord.length - (intOf v24).toNat)
    case atStart => exact ⟨0, [], rfl, Nat.zero_le _, H, ⟨Kd.R_mono HO1.out (fun _ _ => by simp [Value.ownBlock])⟩, ⟨Kd.R_mono HO2.out (fun _ _ => by simp [Value.ownBlock])⟩, ⟨Kd.R_nil _ _ _ _ _⟩, HB1⟩
    case round =>
      obtain ⟨j, xs, rfl, hj, HG, HR1, HR2, HX, HB⟩ := hrel
      by_cases hlt : j < ord.length
      · have hg := HG.out
        rw [show ord.length - j = (ord.length - (j + 1)) + 1 by omega] at hg
        simp only [pickGo] at hg
        split at hg
        · rename_i hcn
          obtain ⟨a0, a1, a2⟩ := hcn
          obtain ⟨b, hb, hg⟩ := Option.bind_eq_some_iff.mp hg
          have HG2 := Aside0.mk hg
          clear hg HG
          have A2' := Aside0.mk a2
          clear a2
          obtain ⟨ad, ea, x0⟩ := Kd.at_int (Kd.R_reads' HR1.out).2.2 (j : Int) (by omega) (by omega)
          cases ea
          obtain ⟨ad2, ea, y0⟩ := Kd.at_int (Kd.R_reads' HR2.out).2.2 _ a0 a1
          cases ea
          simp only [Int.toNat_natCast] at x0
          by_cases hj0 : j = 0
          all_goals
            first | have hj1 : ((j : Int) == 0) = true := by simpa using hj0 | have hj1 : ((j : Int) == 0) = false := by simpa using hj0
            first | rw [if_pos hj0] at hb | rw [if_neg hj0] at hb
            have HBB := Aside0.mk hb
            clear hb hj0
            cases b with
            | true =>
              rcases hF with rfl | rfl
              all_goals
                go_wp2_with (first | (go_at_call 45; (with_reducible refine (HCL.out _ _ _ _ ?s1 HBB.out).mono ?_); (case s1 => exact HB.out); rintro e w' ⟨rfl, rfl⟩) | (go_at_call 48; (with_reducible refine (HCL.out _ _ _ _ ?s1 HBB.out).mono ?_); (case s1 => exact HB.out); rintro e w' ⟨rfl, rfl⟩) | ((with_reducible refine gate_builtin (b := .append) (xs := #[.tmp 39, .tmp 41]) rfl ?_); at_builtin; refine Kd.R_append (Kd.int .i64) (w0 := w) w.heap.size rfl (.tmp 39) (.tmp 41) 23 3 (.int .i64 0) 8 rfl Try.underlying23 info3 rfl (by decide) (by omega) _ xs (rd ord (j : Int)) [.int .i64 (rd ord (j : Int))] (fun k_ => some k_ ≠ (Value.slice (some ad) ord.length c1).ownBlock ∧ some k_ ≠ (Value.slice (some ad2) par.length c2).ownBlock) (fun _ => False) rfl rfl ?aP (fun _ hk => hk.elim) ?aF ?aO ?aB ?aS ?aL ?_; (case aP => exact rfl); (case aB => exact HB.out); (case aF => exact fun k_ hk => ⟨Kd.fresh' (Kd.R_lt HR1.out) k_ hk, Kd.fresh' (Kd.R_lt HR2.out) k_ hk⟩); (case aO => exact HX.out); (case aS => exact below_size HB.out); (case aL => have := A2'.out; omega); intro v5 w5 ho5 hb5 hg5 hat5; have HR1' := Aside0.mk (Kd.R_after (ok := fun _ => True) (Kd.R_mono HR1.out (fun _ hk => ⟨trivial, hk⟩)) hg5 hat5); have HR2' := Aside0.mk (Kd.R_after (ok := fun _ => True) (Kd.R_mono HR2.out (fun _ hk => ⟨trivial, hk⟩)) hg5 hat5); have HX' := Aside0.mk ho5; have HB' := Aside0.mk hb5; clear ho5 hb5 hg5 hat5))
                go_roundw
                case rel => exact ⟨j + 1, _, by go_num, by omega, HG2, ⟨Kd.R_mono HR1'.out (fun _ hk => hk.2)⟩, ⟨Kd.R_mono HR2'.out (fun _ hk => hk.2)⟩, HX', HB'⟩
                case measure => simp [intOf]; omega
            | false =>
              rcases hF with rfl | rfl
              all_goals
                go_wp2_with (first | (go_at_call 45; (with_reducible refine (HCL.out _ _ _ _ ?s1 HBB.out).mono ?_); (case s1 => exact HB.out); rintro e w' ⟨rfl, rfl⟩) | (go_at_call 48; (with_reducible refine (HCL.out _ _ _ _ ?s1 HBB.out).mono ?_); (case s1 => exact HB.out); rintro e w' ⟨rfl, rfl⟩))
                go_roundw
                case rel => exact ⟨j + 1, xs, by go_num, by omega, HG2, HR1, HR2, HX, HB⟩
                case measure => simp [intOf]; omega
        · simp at hg
      · go_wp2
        go_ret2
        have hg := HG.out
        rw [show ord.length - j = 0 by omega] at hg
        simp only [pickGo, Option.some.injEq] at hg
        subst hg
        exact ⟨_, rfl, Kd.R_mono HX.out (fun _ _ => trivial), HB.out⟩
  · rw [if_neg e0] at h
    simp only [Option.some.injEq, Prod.mk.injEq] at h
    obtain ⟨rfl, rfl⟩ := h
    have e1 : (e != 0) = true := bne_iff_ne.mpr e0
    go_enter Try.func44, Try.ntmps44
    go_wp2_with (go_at_call 51; (with_reducible refine (weigh_keys.calls k _ _ l0 ord par e _ ?s1 ?s2 HE.out).mono ?_); (case s1 => exact hr0); (case s2 => exact hc0); rintro e w1 ⟨v1, v2, rfl, ho1, ho2, hb1⟩)
    go_ret2
    exact ⟨_, rfl, Kd.R_nil _ _ _ _ _, hb1⟩
end Go.Proofs.Ytmmjkebboonnkaa.P
