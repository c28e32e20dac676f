/- P.modelMemory_holds, part 10 of 37: the contracts of the Go functions that the law calls, its own walk, and its plain law, for every input that the statement speaks of. -/
import Derived.Test.YtanlnfcjdjamaaaMMe4
import Derived.Test.YtanlnfcjdjamaaaMMe7
import Derived.Test.YtanlnfcjdjamaaaMMe2
import Derived.Test.YtanlnfcjdjamaaaMMe8
set_option linter.unusedVariables false
set_option linter.unusedSimpArgs false
/- L2 -/
namespace Go.Proofs.Ytanlnfcjdjamaaa.P
open Go.RowKit Go.Proofs.YtanlnfcjdjamaaaW.PrintWords Go.Proofs.YtanlnfcjdjamaaaW.PrintLast Go.Proofs.YtanlnfcjdjamaaaW.PrintMore
theorem rd51_get (l : List S51) (i : Nat) (h : i < l.length) : J51 l (i : Int) = l[i] := by
  unfold J51
  rw [Int.toNat_natCast, List.getD_eq_getElem?_getD, List.getElem?_eq_getElem h]
  rfl
theorem split_lt {A B : List S51} {key : Int} (ha : ∀ a ∈ A, a.f0 < key) (hb : ∀ b ∈ B, key ≤ b.f0) (t : Nat) (ht : t < (A ++ B).length) : (J51 (A ++ B) (t : Int)).f0 < key ↔ t < A.length := by
  rw [rd51_get _ t ht]
  by_cases h : t < A.length
  · rw [List.getElem_append_left h]
    exact ⟨fun _ => h, fun _ => ha _ (List.getElem_mem _)⟩
  · rw [List.getElem_append_right (by omega)]
    have := hb _ (List.getElem_mem (l := B) (n := t - A.length) (by rw [List.length_append] at ht; omega))
    exact ⟨fun h2 => by omega, fun h2 => absurd h2 h⟩
theorem bs_split {A B : List S51} {key : Int} (ha : ∀ a ∈ A, a.f0 < key) (hb : ∀ b ∈ B, key ≤ b.f0) : ∀ d i j, i ≤ A.length → A.length ≤ j → j ≤ (A ++ B).length → j - i ≤ d → bsGo (A ++ B) key d i j = A.length
  | 0, i, j, h1, h2, h3, h4 => by simp only [bsGo]; omega
  | d + 1, i, j, h1, h2, h3, h4 => by
    simp only [bsGo]
    by_cases hlt : i < j
    · rw [if_pos hlt]
      have hk := split_lt ha hb ((i + j) / 2) (by omega)
      by_cases hc : (J51 (A ++ B) (((i + j) / 2 : Nat) : Int)).f0 < key
      · rw [if_pos hc]
        have := hk.1 hc
        exact bs_split ha hb d _ j (by omega) h2 h3 (by omega)
      · rw [if_neg hc]
        have : ¬ (i + j) / 2 < A.length := fun h => hc (hk.2 h)
        exact bs_split ha hb d i _ h1 (by omega) (by omega) (by omega)
    · rw [if_neg hlt]
      omega
theorem bsAt_cnt (l : List S51) (h : Up l) (key : Int) : bsAt l key = cntL l key := by
  obtain ⟨A, B, rfl, ha, hb, _, ub⟩ := up_split l key h
  rw [cnt_split ha hb]
  exact bs_split ha hb _ 0 _ (Nat.zero_le _) (by simp) (Nat.le_refl _) (by omega)
theorem cnt_le (l : List S51) (key : Int) : cntL l key ≤ l.length := List.length_filter_le _ _
theorem bsB_has (l : List S51) (h : Up l) (key : Int) : bsB l key (cntL l key) = hasL l key := by
  obtain ⟨A, B, rfl, ha, hb, _, ub⟩ := up_split l key h
  rw [cnt_split ha hb]
  unfold bsB
  rcases behind hb ub with ⟨x, B', rfl, hx, hb'⟩ | hb'
  · rw [has_yes hx, rd51_get _ _ (by simp)]
    simp [hx]
  · rw [has_no ha hb']
    cases B with
    | nil => simp
    | cons x r =>
      rw [rd51_get _ _ (by simp)]
      have := hb' x (by simp)
      simp
      omega
theorem find_up (l : List S51) (h : Up l) (hl : l.length < 1000000000) (key : Int) : model_find.f l key = some (((cntL l key : Nat) : Int), hasL l key) := by
  unfold model_find.f
  rw [if_pos (by omega), show bsGo l key l.length 0 l.length = bsAt l key from rfl, bsAt_cnt l h, bsB_has l h]
theorem told_val (l : List S51) (i : Int) : model_told.f l i = some ((toldL l i).f0, (toldL l i).f1, (toldL l i).f2, (toldL l i).f3) := by
  by_cases h1 : i < 0
  · have : toldL l i = zR := told_neg l i h1
    rw [this]
    unfold model_told.f
    rw [if_pos h1]
    rfl
  · by_cases h2 : i ≥ (l.length : Int)
    · have : toldL l i = zR := by unfold toldL; rw [if_pos (show (0 : Int) ≤ i by omega), List.getElem?_eq_none (show l.length ≤ i.toNat by omega)]
      rw [this]
      unfold model_told.f
      rw [if_neg h1, if_pos h2]
      rfl
    · have e := rd51_get l i.toNat (by omega)
      rw [Int.toNat_of_nonneg (by omega)] at e
      have : toldL l i = ⟨true, (J51 l i).f0, (J51 l i).f1, []⟩ := by unfold toldL; rw [if_pos (show (0 : Int) ≤ i by omega), List.getElem?_eq_getElem (show i.toNat < l.length by omega), e]
      rw [this]
      unfold model_told.f
      rw [if_neg h1, if_neg h2, if_pos (by omega), if_pos (by omega)]
theorem has_lt {l : List S51} (h : Up l) {key : Int} (hh : hasL l key = true) : cntL l key < l.length := by
  rw [← bsB_has l h] at hh
  exact bsB_lt hh
theorem part_up (l : List S51) (h : Up l) (hl : l.length < 1000000000) (lo hi : Int) : model_part.f l lo hi = some (partL l lo hi) := by
  unfold model_part.f partL
  rw [if_pos (by omega)]
  by_cases hlt : hi < lo
  · rw [if_pos hlt, if_pos hlt]
  · rw [if_neg hlt, if_neg hlt]
    have e : toAt l hi = cntL l hi + if hasL l hi then 1 else 0 := by
      unfold toAt
      rw [bsAt_cnt l h, bsB_has l h]
    rw [e, bsAt_cnt l h, if_pos]
    have : cntL l lo ≤ cntL l hi := by
      unfold cntL
      rw [← List.countP_eq_length_filter, ← List.countP_eq_length_filter]
      refine List.countP_mono_left fun x _ hx => ?_
      simp at hx ⊢
      omega
    omega
theorem val_rd (l : List S51) (key : Int) (h : cntL l key < l.length) : (J51 l (cntL l key : Int)).f1 = valL l key := by
  unfold valL
  rw [rd51_get l _ h, List.getElem?_eq_getElem h]
theorem read_up (l : List S51) (h : Up l) (hl : l.length < 1000000000) (o : S25) : model_read.f l o.f0 o.f1 o.f2 o.f3 = some ((readL l o).f0, (readL l o).f1, (readL l o).f2, (readL l o).f3) := by
  unfold model_read.f readL
  rw [find_up l h hl]
  simp only [Option.bind_some]
  have hc := cnt_le l o.f1
  have w1 : wrap64 ((cntL l o.f1 : Int) + 1) = (cntL l o.f1 : Int) + 1 := by unfold wrap64; omega
  have w2 : wrap64 ((cntL l o.f1 : Int) - 1) = (cntL l o.f1 : Int) - 1 := by unfold wrap64; omega
  have w3 : wrap64 ((l.length : Int) - 1) = (l.length : Int) - 1 := by unfold wrap64; omega
  rw [w1, w2, w3]
  by_cases h1 : o.f0 = 1
  · rw [if_pos h1, if_pos h1]
    cases hh : hasL l o.f1 with
    | true =>
      have := has_lt h hh
      rw [if_pos rfl, if_pos rfl, if_pos (by omega), if_pos (by omega), val_rd l _ this]
    | false => rfl
  rw [if_neg h1, if_neg h1]
  by_cases h5 : o.f0 = 5
  · rw [if_pos h5, if_pos h5]
    cases hh : hasL l o.f1 with
    | true => rw [if_pos rfl, told_val]; rfl
    | false => rw [if_neg (by decide), told_val, if_neg (by decide), Int.add_zero]; rfl
  rw [if_neg h5, if_neg h5]
  by_cases h6 : o.f0 = 6
  · rw [if_pos h6, if_pos h6, told_val]; rfl
  rw [if_neg h6, if_neg h6]
  by_cases h7 : o.f0 = 7
  · rw [if_pos h7, if_pos h7, told_val]; rfl
  rw [if_neg h7, if_neg h7]
  by_cases h8 : o.f0 = 8
  · rw [if_pos h8, if_pos h8, told_val]; rfl
  rw [if_neg h8, if_neg h8]
  by_cases h9 : o.f0 = 9
  · rw [if_pos h9, if_pos h9, part_up l h hl]; rfl
  · rw [if_neg h9, if_neg h9]; rfl
def chkUp : List S51 → Bool
  | [] => true
  | [_] => true
  | x :: y :: r => decide (x.f0 < y.f0) && chkUp (y :: r)
theorem chk_up : ∀ l : List S51, chkUp l = true ↔ Up l
  | [] => by simp [chkUp, Up]
  | [x] => by simp [chkUp, Up]
  | x :: y :: r => by
    have ih := chk_up (y :: r)
    unfold Up at ih ⊢
    rw [chkUp, Bool.and_eq_true, ih]
    constructor
    · rintro ⟨h1, h2⟩
      have h1' : x.f0 < y.f0 := of_decide_eq_true h1
      refine List.pairwise_cons.2 ⟨fun b hb => ?_, h2⟩
      rcases List.mem_cons.1 hb with rfl | hb
      · exact h1'
      · have := (List.pairwise_cons.1 h2).1 b hb
        omega
    · intro h
      obtain ⟨h1, h2⟩ := List.pairwise_cons.1 h
      exact ⟨decide_eq_true (h1 y (by simp)), h2⟩
theorem chk_drop (l : List S51) (j : Nat) (h : j + 1 < l.length) : chkUp (l.drop j) = (decide ((J51 l (j : Int)).f0 < (J51 l ((j + 1 : Nat) : Int)).f0) && chkUp (l.drop (j + 1))) := by
  rw [List.drop_eq_getElem_cons (show j < l.length by omega), List.drop_eq_getElem_cons h, chkUp, rd51_get l j (by omega), rd51_get l (j + 1) h]
theorem chk_end (l : List S51) (j : Nat) (h : l.length ≤ j + 1) : chkUp (l.drop j) = true := by
  have : (l.drop j).length ≤ 1 := by rw [List.length_drop]; omega
  match l.drop j, this with
  | [], _ => rfl
  | [_], _ => rfl
  | _ :: _ :: _, h => simp at h
theorem check_go (l : List S51) (hl : l.length < 1000000000) : ∀ d (j k : Nat), j + 1 + d = l.length ∨ (d = 0 ∧ l.length ≤ j + 1) → d < k → model_Check.l0 k l ((j + 1 : Nat) : Int) = some (if chkUp (l.drop j) then 0 else 11)
  | 0, j, k + 1, hd, _ => by
    simp only [model_Check.l0]
    rw [if_neg (by omega), chk_end l j (by omega)]
    rfl
  | d + 1, j, k + 1, hd, hk => by
    simp only [model_Check.l0]
    have e1 : wrap64 (((j + 1 : Nat) : Int) - 1) = (j : Int) := by unfold wrap64; omega
    have e2 : wrap64 (((j + 1 : Nat) : Int) + 1) = ((j + 1 + 1 : Nat) : Int) := by unfold wrap64; omega
    rw [if_pos (by omega), e1, if_pos (by omega), if_pos (by omega), if_pos (by omega), e2, check_go l hl d (j + 1) k (by omega) (by omega), chk_drop l j (by omega)]
    by_cases hc : (J51 l (j : Int)).f0 ≥ (J51 l ((j + 1 : Nat) : Int)).f0
    · rw [if_pos hc, decide_eq_false (by omega)]
      rfl
    · rw [if_neg hc, decide_eq_true (by omega), Bool.true_and]
theorem check_val (l : List S51) (hl : l.length < 1000000000) : model_Check.f (l.length + 1) l = some (if chkUp l then 0 else 11) := by
  have := check_go l hl (l.length - 1) 0 (l.length + 1) (by omega) (by omega)
  exact this
end Go.Proofs.Ytanlnfcjdjamaaa.P
