/- P.modelMemory_holds, part 8 of 37: the contracts of the Go functions that the law calls, its own walk, and its plain law, for every input that the statement speaks of. -/
import Derived.Test.YtanlnfcjdjamaaaMMe5
import Derived.Test.YtanlnfcjdjamaaaMMe6
import Derived.Test.YtanlnfcjdjamaaaMMe2
set_option linter.unusedVariables false
set_option linter.unusedSimpArgs false
/- E2 -/
namespace Go.Proofs.Ytanlnfcjdjamaaa.P
open Go.RowKit Go.Proofs.YtanlnfcjdjamaaaW.PrintWords Go.Proofs.YtanlnfcjdjamaaaW.PrintLast Go.Proofs.YtanlnfcjdjamaaaW.PrintMore
theorem bs_le (l : List S51) (key : Int) : ∀ d i j, i ≤ j → i ≤ bsGo l key d i j ∧ bsGo l key d i j ≤ j
  | 0, i, j, h => by simp only [bsGo]; omega
  | d + 1, i, j, h => by
    simp only [bsGo]
    split
    · split
      · have := bs_le l key d ((i + j) / 2 + 1) j (by omega); omega
      · have := bs_le l key d i ((i + j) / 2) (by omega); omega
    · omega
def bsAt (l : List S51) (key : Int) : Nat := bsGo l key l.length 0 l.length
theorem bsAt_le (l : List S51) (key : Int) : bsAt l key ≤ l.length := (bs_le l key l.length 0 l.length (Nat.zero_le _)).2
theorem bsB_lt {l : List S51} {key : Int} {i : Nat} (h : bsB l key i = true) : i < l.length := by
  unfold bsB at h
  simp at h
  exact h.1
def toAt (l : List S51) (key : Int) : Nat := bsAt l key + if bsB l key (bsAt l key) then 1 else 0
theorem toAt_le (l : List S51) (key : Int) : toAt l key ≤ l.length := by
  unfold toAt
  split
  · rename_i h
    have := bsB_lt h
    omega
  · have := bsAt_le l key
    omega
def model_part.f (l0 : List S51) (a1 : Int) (a2 : Int) : Option (List S51) := if l0.length < 8796093022208 then (if a2 < a1 then some [] else if bsAt l0 a1 ≤ toAt l0 a2 then some ((l0.take (toAt l0 a2)).drop (bsAt l0 a1)) else none) else none
set_option maxHeartbeats 4000000 in
set_option maxRecDepth 100000 in
theorem model_part.calls (A0 : Option Addr) (c0 : Nat) (l0 : List (S51)) (a1 : Int) (a2 : Int) (r : List (S51)) (w : World) (hr0 : Kd.C k51 w A0 l0.length l0) (hc0 : l0.length ≤ c0) (h : model_part.f l0 a1 a2 = some r) :
    Calls Try.prog 46 #[.slice A0 l0.length c0, .int .i64 a1, .int .i64 a2] w fun e w' => ∃ v0_ : Value, e = .returned (v0_) ∧ Kd.R k51 51 w' w.heap.size (fun _ => True) v0_ r ∧ Below w.heap.size w w' := by
  have hu51 := Try.underlying51
  unfold model_part.f at h
  by_cases hl : l0.length < 8796093022208
  rotate_left
  · rw [if_neg hl] at h; simp at h
  rw [if_pos hl] at h
  by_cases hlt : a2 < a1
  · rw [if_pos hlt] at h
    cases h
    have hd : decide (a1 > a2) = true := decide_eq_true hlt
    go_enter Try.func46, Try.ntmps46
    go_wp2
    go_ret
    exact ⟨_, rfl, Kd.R_nil _ _ _ _ _, Below.refl _ _⟩
  rw [if_neg hlt] at h
  by_cases hft : bsAt l0 a1 ≤ toAt l0 a2
  rotate_left
  · rw [if_neg hft] at h; simp at h
  rw [if_pos hft] at h
  cases h
  have hd : decide (a2 < a1) = false := decide_eq_false hlt
  have htl := toAt_le l0 a2
  have h1 : model_find.f l0 a1 = some (((bsAt l0 a1 : Nat) : Int), bsB l0 a1 (bsAt l0 a1)) := by unfold model_find.f; rw [if_pos (by omega)]; rfl
  have h2 : model_find.f l0 a2 = some (((bsAt l0 a2 : Nat) : Int), bsB l0 a2 (bsAt l0 a2)) := by unfold model_find.f; rw [if_pos (by omega)]; rfl
  unfold toAt at hft htl ⊢
  generalize bsAt l0 a1 = i at *
  generalize bsAt l0 a2 = j at *
  generalize bsB l0 a1 i = b1 at *
  generalize bsB l0 a2 j = b2 at *
  have H1 := Aside0.mk h1
  have H2 := Aside0.mk h2
  clear h1 h2
  have hlen : ∀ t, i ≤ t → t ≤ l0.length → ((l0.take t).drop i).length = t - i := by
    intro t ht ht2
    rw [List.length_drop, List.length_take]
    omega
  have HLEN := Aside0.mk hlen
  clear hlen
  have HLL := Aside0.mk hl
  have g1 : (0 : Int) ≤ (i : Int) := by omega
  cases b2 with
  | true =>
    rw [if_pos rfl] at hft htl ⊢
    have g2 : (i : Int) ≤ (j : Int) + 1 := by omega
    have g3 : (j : Int) + 1 ≤ (l0.length : Int) := by omega
    have g4 : IntKind.i64.wrap ((j : Int) + 1) = (j : Int) + 1 := IntWalk.i64_in _ (by omega)
    have g5 : (j : Int) + 1 ≤ (c0 : Int) := by omega
    have g6 : ((j : Int) + 1).toNat = j + 1 := by omega
    go_enter Try.func46, Try.ntmps46
    go_wp2_with (first
      | (go_at_call 47; (with_reducible refine (model_find.calls A0 c0 l0 a1 _ _ w hr0 hc0 H1.out).mono ?_); rintro e w1 ⟨rfl, hb⟩; have HB1 := Aside0.mk hb; clear hb)
      | (go_at_call 47; (with_reducible refine (model_find.calls A0 c0 l0 a2 _ _ w1 (Kd.C_below hr0 HB1.out) hc0 H2.out).mono ?_); rintro e w2 ⟨rfl, hb⟩; have HB2 := Aside0.mk (below_step HB1.out hb); clear hb; have hcl := api_Pair_40.calls (if c0 = i then A0 else A0.map (·.add (i * 2))) (c0 - i) ((l0.take (j + 1)).drop i) _ w2 (Kd.C_mid (Kd.C_below hr0 HB2.out) hft htl hc0) (by rw [HLEN.out _ hft htl]; omega) (by unfold api_Pair_40.f; rw [if_pos (by rw [HLEN.out _ hft htl]; have := HLL.out; omega)]); rw [HLEN.out _ hft htl] at hcl; have HCL := Aside0.mk hcl; clear hcl)
      | (go_at_call 40; refine HCL.out.mono ?_; rintro e w3 ⟨v3, rfl, ho3, hb3⟩; have HO3 := Aside0.mk ho3; have HB3 := Aside0.mk (below_step HB2.out hb3); clear ho3 hb3))
    all_goals (go_ret; exact ⟨_, rfl, Kd.R_lower HO3.out HB2.out.size, HB3.out⟩)
  | false =>
    rw [if_neg (by decide), Nat.add_zero] at hft htl ⊢
    have g2 : (i : Int) ≤ (j : Int) := by omega
    have g3 : (j : Int) ≤ (l0.length : Int) := by omega
    have g5 : (j : Int) ≤ (c0 : Int) := by omega
    have g7 : (0 : Int) ≤ (j : Int) := by omega
    go_enter Try.func46, Try.ntmps46
    go_wp2_with (first
      | (go_at_call 47; (with_reducible refine (model_find.calls A0 c0 l0 a1 _ _ w hr0 hc0 H1.out).mono ?_); rintro e w1 ⟨rfl, hb⟩; have HB1 := Aside0.mk hb; clear hb)
      | (go_at_call 47; (with_reducible refine (model_find.calls A0 c0 l0 a2 _ _ w1 (Kd.C_below hr0 HB1.out) hc0 H2.out).mono ?_); rintro e w2 ⟨rfl, hb⟩; have HB2 := Aside0.mk (below_step HB1.out hb); clear hb; have hcl := api_Pair_40.calls (if c0 = i then A0 else A0.map (·.add (i * 2))) (c0 - i) ((l0.take j).drop i) _ w2 (Kd.C_mid (Kd.C_below hr0 HB2.out) hft htl hc0) (by rw [HLEN.out _ hft htl]; omega) (by unfold api_Pair_40.f; rw [if_pos (by rw [HLEN.out _ hft htl]; have := HLL.out; omega)]); rw [HLEN.out _ hft htl] at hcl; have HCL := Aside0.mk hcl; clear hcl)
      | (go_at_call 40; refine HCL.out.mono ?_; rintro e w3 ⟨v3, rfl, ho3, hb3⟩; have HO3 := Aside0.mk ho3; have HB3 := Aside0.mk (below_step HB2.out hb3); clear ho3 hb3))
    all_goals (go_ret; exact ⟨_, rfl, Kd.R_lower HO3.out HB2.out.size, HB3.out⟩)
end Go.Proofs.Ytanlnfcjdjamaaa.P
