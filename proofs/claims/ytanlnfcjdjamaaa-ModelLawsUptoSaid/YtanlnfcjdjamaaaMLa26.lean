/- P.modelLaws_holds, part 27 of 35: the contracts of the Go functions that the law calls, its own walk, and its plain law, for every input that the statement speaks of. -/
import Derived.Test.YtanlnfcjdjamaaaMLa9
import Derived.Test.YtanlnfcjdjamaaaMLa16
import Derived.Test.YtanlnfcjdjamaaaMLa18
import Derived.Test.YtanlnfcjdjamaaaMLa2
import Derived.Test.YtanlnfcjdjamaaaMLa25
import Derived.Test.YtanlnfcjdjamaaaMLa23
import Derived.Test.YtanlnfcjdjamaaaMLa7
set_option linter.unusedVariables false
set_option linter.unusedSimpArgs false
/- P1 -/
namespace Go.Proofs.Ytanlnfcjdjamaaa.P
open Go.RowKit Go.Proofs.YtanlnfcjdjamaaaW.PrintWords Go.Proofs.YtanlnfcjdjamaaaW.PrintLast Go.Proofs.YtanlnfcjdjamaaaW.PrintMore
theorem runF_up {m : List S51} (ops : List S25) (hc : chkUp m = true) : runF m ops = if ops.all okK then ((runL m ops).1, (runL m ops).2, 0) else ([], [], 5) := by
  unfold runF
  rw [if_neg (by simp [hc])]
  cases ops.all okK <;> rfl
instance : DecidableEq S51 := fun x y => decidable_of_iff (x.f0 = y.f0 ∧ x.f1 = y.f1) (by cases x; cases y; simp)
theorem pair_eq (x y : S51) : ((!(x.f0 == y.f0)) || (!(x.f1 == y.f1))) = !decide (x = y) := by
  rw [show decide (x = y) = decide (x.f0 = y.f0 ∧ x.f1 = y.f1) from decide_eq_decide.2 (by cases x; cases y; simp)]
  by_cases h1 : x.f0 = y.f0 <;> by_cases h2 : x.f1 = y.f1 <;> simp [h1, h2]
theorem rsame_go (a b : List S51) (hl : a.length < 1000000000) (he : a.length = b.length) : ∀ d (j : Nat), j + d = a.length → Ev (fun k => larchref06_Same.l0 k a b (j : Int)) (decide (a.drop j = b.drop j))
  | 0, j, hd => by
    refine Ev.succ ((Ev.const true).congr' (by rw [List.drop_eq_nil_of_le (by omega), List.drop_eq_nil_of_le (by omega)]; simp) fun k => ?_)
    simp only [larchref06_Same.l0]
    rw [if_neg (by omega)]
  | d + 1, j, hd => by
    rw [drop51 a j (by omega), drop51 b j (by omega)]
    by_cases h : J51 a (j : Int) = J51 b (j : Int)
    · refine Ev.succ ((rsame_go a b hl he d (j + 1) (by omega)).congr' (by simp [h]) fun k => ?_)
      simp only [larchref06_Same.l0, pair_eq]
      rw [if_pos (by omega), if_pos (by omega), if_pos (by omega), if_neg (by simp [h]), wrap_succ (by omega)]
    · refine Ev.succ ((Ev.const false).congr' (by simp [h]) fun k => ?_)
      simp only [larchref06_Same.l0, pair_eq]
      rw [if_pos (by omega), if_pos (by omega), if_pos (by omega), if_pos (by simp [h])]
theorem rsame_ev (a b : List S51) (hl : a.length < 1000000000) : Ev (fun k => larchref06_Same.f k a b) (decide (a = b)) := by
  unfold larchref06_Same.f
  by_cases he : a.length = b.length
  · refine (rsame_go a b hl he a.length 0 (by omega)).congr fun k => ?_
    rw [if_pos (by omega)]
    rfl
  · refine (Ev.const false).congr' (decide_eq_false (fun h => he (by rw [h]))) fun k => ?_
    rw [if_neg (by omega)]
def sameR (b : Bool) (x y : Int) (l : List S51) (b' : Bool) (x' y' : Int) (l' : List S51) : Bool := decide (b = b' ∧ x = x' ∧ y = y' ∧ l = l')
theorem same_ret {f : Nat → Option Bool} {b : Bool} {x y : Int} {l : List S51} {b' : Bool} {x' y' : Int} {l' : List S51} (h : Ev f (decide (l = l'))) :
    Ev (fun k => if (b == b') = true then (if x = x' then (if y = y' then ((f k).bind fun t => (some t)) else (some false)) else (some false)) else (some false)) (sameR b x y l b' x' y' l') := by
  unfold sameR
  by_cases h1 : b = b'
  · by_cases h2 : x = x'
    · by_cases h3 : y = y'
      · refine (Ev.bind h (Ev.const _)).congr' (by simp [h1, h2, h3]) fun k => ?_
        rw [if_pos (by simp [h1]), if_pos h2, if_pos h3]
      · refine (Ev.const false).congr' (by simp [h3]) fun k => ?_
        rw [if_pos (by simp [h1]), if_pos h2, if_neg h3]
    · refine (Ev.const false).congr' (by simp [h2]) fun k => ?_
      rw [if_pos (by simp [h1]), if_neg h2]
  · refine (Ev.const false).congr' (by simp [h1]) fun k => ?_
    rw [if_neg (by simp [h1])]
theorem rret_ev (b : Bool) (x y : Int) (l : List S51) (b' : Bool) (x' y' : Int) (l' : List S51) (hl : l.length < 1000000000) : Ev (fun k => larchref06_SameRet.f k b x y l b' x' y' l') (sameR b x y l b' x' y' l') := by
  unfold larchref06_SameRet.f
  exact same_ret (rsame_ev l l' hl)
theorem sameR_refl (b : Bool) (x y : Int) (l : List S51) : sameR b x y l b x y l = true := by simp [sameR]
theorem rd27_mem (l : List S27) (i : Nat) (h : i < l.length) : J27 l (i : Int) ∈ l := by
  unfold J27
  rw [Int.toNat_natCast, List.getD_eq_getElem?_getD, List.getElem?_eq_getElem h]
  exact List.getElem_mem h
theorem rrets_go (a : List S27) (hl : a.length < 1000000000) (hp : ∀ r ∈ a, r.f3.length < 1000000000) : ∀ d (j : Nat), j + d = a.length → Ev (fun k => larchref06_SameRets.l0 k a a (j : Int)) true
  | 0, j, hd => by
    refine Ev.succ ((Ev.const true).congr fun k => ?_)
    simp only [larchref06_SameRets.l0]
    rw [if_neg (by omega)]
  | d + 1, j, hd => by
    have hm := rd27_mem a j (by omega)
    have h1 := rret_ev (J27 a j).f0 (J27 a j).f1 (J27 a j).f2 (J27 a j).f3 (J27 a j).f0 (J27 a j).f1 (J27 a j).f2 (J27 a j).f3 (hp _ hm)
    rw [sameR_refl] at h1
    refine Ev.succ ((Ev.bind (g := fun k t => if t = true then larchref06_SameRets.l0 k a a ((j + 1 : Nat) : Int) else some false) h1 ((rrets_go a hl hp d (j + 1) (by omega)).congr fun k => if_pos rfl)).congr fun k => ?_)
    simp only [larchref06_SameRets.l0]
    rw [if_pos (by omega), if_pos (by omega), if_pos (by omega), wrap_succ (by omega)]
theorem rrets_ev (a : List S27) (hl : a.length < 1000000000) (hp : ∀ r ∈ a, r.f3.length < 1000000000) : Ev (fun k => larchref06_SameRets.f k a a) true := by
  unfold larchref06_SameRets.f
  refine (rrets_go a hl hp a.length 0 (by omega)).congr fun k => ?_
  rw [if_pos rfl]
  rfl
theorem part_len (l : List S51) (lo hi : Int) : (partL l lo hi).length ≤ l.length := by
  unfold partL
  split
  · simp
  · rw [List.length_drop, List.length_take]; omega
theorem told_nil (l : List S51) (i : Int) : (toldL l i).f3 = [] := by
  unfold toldL
  split <;> rfl
theorem do_ps (l : List S51) (o : S25) : (doL l o).2.f3.length ≤ l.length := by
  unfold doL
  split
  · dsimp only
    split <;> simp
  · dsimp only
    unfold readL
    split
    · split <;> simp [zR]
    · split
      · simp [told_nil]
      · split
        · simp [told_nil]
        · split
          · simp [told_nil]
          · split
            · simp [told_nil]
            · split
              · exact part_len l _ _
              · simp [zR]
theorem run_bounds : ∀ (ops : List S25) (m : List S51), (runL m ops).1.length ≤ m.length + ops.length ∧ ∀ r ∈ (runL m ops).2, r.f3.length ≤ m.length + ops.length
  | [], m => by simp [runL]
  | o :: t, m => by
    have ih := run_bounds t (doL m o).1
    have h1 := do_len m o
    have h2 := do_ps m o
    refine ⟨by rw [runL, List.length_cons]; have := ih.1; dsimp only; omega, fun r hr => ?_⟩
    rw [runL] at hr
    rcases List.mem_cons.1 hr with rfl | hr
    · rw [List.length_cons]; omega
    · have := ih.2 r hr
      rw [List.length_cons]; omega
end Go.Proofs.Ytanlnfcjdjamaaa.P
/- P3 -/
namespace Go.Proofs.Ytanlnfcjdjamaaa.P
open Go.RowKit Go.Proofs.YtanlnfcjdjamaaaW.PrintWords Go.Proofs.YtanlnfcjdjamaaaW.PrintLast Go.Proofs.YtanlnfcjdjamaaaW.PrintMore
def fk (k : Int) (l : List S51) : List S51 := l.filter (fun a => decide (ky a = k))
theorem fk_nil_of {k : Int} {l : List S51} (h : ∀ a ∈ l, ky a ≠ k) : fk k l = [] := List.filter_eq_nil_iff.2 (fun a ha => by simpa using h a ha)
theorem fk_app (k : Int) (a b : List S51) : fk k (a ++ b) = fk k a ++ fk k b := List.filter_append ..
theorem fk_cons (k : Int) (a : S51) (b : List S51) : fk k (a :: b) = if ky a = k then a :: fk k b else fk k b := by
  unfold fk
  rw [List.filter_cons]
  by_cases h : ky a = k <;> simp [h]
theorem up_srt {l : List S51} (h : Up l) : Sym.Srt ky l := List.Pairwise.imp (fun hab => by unfold ky; omega) h
theorem with_up {l : List S51} (h : Up l) (key val : Int) : Up (withL key val false l) := by
  have := do_step l h ⟨2, key, val, 0⟩ (show (1 : Int) ≤ 2 by decide) (show (2 : Int) ≤ 9 by decide)
  have h2 : (doL l ⟨2, key, val, 0⟩).1 = withL key val false l := by
    rw [this.1]
    unfold stepL
    simp
  rw [← h2]
  exact this.2
theorem with_fk {l : List S51} (h : Up l) (key val : Int) (k : Int) : fk k (withL key val false l) = if key = k then [⟨key, val⟩] else fk k l := by
  obtain ⟨A, B, rfl, ha, hb, ua, ub⟩ := up_split l key h
  rw [with_split ha, fk_app, fk_app]
  rcases behind hb ub with ⟨x, B', rfl, hx, hB'⟩ | hB
  · rw [with_yes hx hB', fk_cons, fk_cons]
    by_cases hk : key = k
    · rw [if_pos hk, if_pos (show ky (⟨key, val⟩ : S51) = k from hk), fk_nil_of (fun a hm => by have := ha a hm; unfold ky; omega), fk_nil_of (fun a hm => by have := hB' a hm; unfold ky; omega)]
      rfl
    · rw [if_neg hk, if_neg (show ¬ ky (⟨key, val⟩ : S51) = k from hk), if_neg (by unfold ky; omega)]
  · rw [with_no hB, fk_cons]
    by_cases hk : key = k
    · rw [if_pos hk, if_pos (show ky (⟨key, val⟩ : S51) = k from hk), fk_nil_of (fun a hm => by have := ha a hm; unfold ky; omega), fk_nil_of (fun a hm => by have := hB a hm; unfold ky; omega)]
      rfl
    · rw [if_neg hk, if_neg (show ¬ ky (⟨key, val⟩ : S51) = k from hk)]
def putAll : List S51 → List S51 → List S51
  | m, [] => m
  | m, x :: r => putAll (withL x.f0 x.f1 false m) r
theorem putAll_up : ∀ (l m : List S51), Up m → Up (putAll m l)
  | [], m, h => h
  | x :: r, m, h => putAll_up r _ (with_up h x.f0 x.f1)
theorem getLast_cons_some {α : Type} {a y : α} {r : List α} (h : r.getLast? = some y) : (a :: r).getLast? = some y := by
  cases r with
  | nil => simp at h
  | cons b r => rw [List.getLast?_cons_cons]; exact h
theorem putAll_fk (k : Int) : ∀ (l m : List S51), Up m → fk k (putAll m l) = match (fk k l).getLast? with | none => fk k m | some x => [x]
  | [], m, h => rfl
  | x :: r, m, h => by
    rw [putAll, putAll_fk k r _ (with_up h x.f0 x.f1), with_fk h, fk_cons]
    by_cases hk : x.f0 = k
    · rw [if_pos hk, if_pos (show ky x = k from hk)]
      cases hg : (fk k r).getLast? with
      | none =>
        have : fk k r = [] := List.getLast?_eq_none_iff.1 hg
        rw [this]
        rfl
      | some y => rw [getLast_cons_some hg]
    · rw [if_neg hk, if_neg (show ¬ ky x = k from hk)]
theorem last_sub : ∀ (n : Nat) (l : List S51), l.length ≤ n → (lastL l).Sublist l
  | n, [], _ => by simp [lastL]
  | n, [x], _ => by simp [lastL]
  | n + 1, x :: y :: r, h => by
    rw [lastL]
    have := last_sub n (y :: r) (by simp at h ⊢; omega)
    split
    · exact this.cons x
    · exact this.cons_cons x
theorem last_fk (k : Int) : ∀ (n : Nat) (l : List S51), l.length ≤ n → Sym.Srt ky l → fk k (lastL l) = match (fk k l).getLast? with | none => [] | some x => [x]
  | n, [], _, _ => by simp [lastL, fk]
  | n, [x], _, _ => by
    rw [lastL, fk_cons]
    by_cases hk : ky x = k
    · rw [if_pos hk]; simp [fk]
    · rw [if_neg hk]; simp [fk]
  | n + 1, x :: y :: r, h, hs => by
    have hs' := List.pairwise_cons.1 hs
    have ih := last_fk k n (y :: r) (by simp at h ⊢; omega) hs'.2
    rw [lastL, fk_cons]
    split
    · rename_i he
      rw [ih]
      by_cases hk : ky x = k
      · rw [if_pos hk]
        cases hg : (fk k (y :: r)).getLast? with
        | none =>
          have h0 : fk k (y :: r) = [] := List.getLast?_eq_none_iff.1 hg
          rw [fk_cons, if_pos (show ky y = k by unfold ky at hk ⊢; omega)] at h0
          cases h0
        | some z => rw [getLast_cons_some hg]
      · rw [if_neg hk]
    · rename_i he
      rw [fk_cons]
      by_cases hk : ky x = k
      · have h0 : fk k (y :: r) = [] := fk_nil_of (fun a ha => by
          have h1 := hs'.1 y (by simp)
          have h2 : ky y ≤ ky a := by
            rcases List.mem_cons.1 ha with rfl | ha
            · exact Int.le_refl _
            · exact (List.pairwise_cons.1 hs'.2).1 a ha
          unfold ky at *; omega)
        rw [if_pos hk, if_pos hk, h0] 
        rw [h0] at ih
        rw [ih]
        rfl
      · rw [if_neg hk, if_neg hk, ih]
theorem of_put (l : List S51) : ofL l = putAll [] l := by
  have hs := srtL_st l
  refine Sym.srt_eq ky _ _ (List.Pairwise.sublist (last_sub _ (srtL l) (Nat.le_refl _)) hs.srt) (up_srt (putAll_up l [] List.Pairwise.nil)) (fun k => ?_)
  show fk k (ofL l) = fk k (putAll [] l)
  rw [putAll_fk k l [] List.Pairwise.nil]
  unfold ofL
  rw [last_fk k _ (srtL l) (Nat.le_refl _) hs.srt, show fk k (srtL l) = fk k l from hs.same k]
  cases (fk k l).getLast? <;> rfl
end Go.Proofs.Ytanlnfcjdjamaaa.P
/- P4 -/
namespace Go.Proofs.Ytanlnfcjdjamaaa.P
open Go.RowKit Go.Proofs.YtanlnfcjdjamaaaW.PrintWords Go.Proofs.YtanlnfcjdjamaaaW.PrintLast Go.Proofs.YtanlnfcjdjamaaaW.PrintMore
theorem mcheck_ev (m : List S51) (hm : m.length < 100000000) : Ev (fun k => model_Check.f k m) (if chkUp m then 0 else 11) := by
  refine ⟨m.length + 1, fun k hk => ?_⟩
  have := check_go m (by omega) (m.length - 1) 0 k (by omega) (by omega)
  rw [List.drop_zero] at this
  exact this
theorem mcheck_up (m : List S51) (hm : m.length < 100000000) (hc : chkUp m = true) : Ev (fun k => model_Check.f k m) 0 := by
  have h := mcheck_ev m hm
  rwa [if_pos hc] at h
end Go.Proofs.Ytanlnfcjdjamaaa.P
/- P8 -/
namespace Go.Proofs.Ytanlnfcjdjamaaa.P
open Go.RowKit Go.Proofs.YtanlnfcjdjamaaaW.PrintWords Go.Proofs.YtanlnfcjdjamaaaW.PrintLast Go.Proofs.YtanlnfcjdjamaaaW.PrintMore
theorem run_app : ∀ (a b : List S25) (m : List S51), runL m (a ++ b) = ((runL (runL m a).1 b).1, (runL m a).2 ++ (runL (runL m a).1 b).2)
  | [], b, m => by simp [runL]
  | o :: t, b, m => by
    rw [List.cons_append, runL, run_app t b]
    simp [runL]
theorem do_up {m : List S51} (h : Up m) {o : S25} (ho : okK o = true) : Up (doL m o).1 := (do_step m h o (of_decide_eq_true ho).1 (of_decide_eq_true ho).2).2
theorem run_up : ∀ (ops : List S25) (m : List S51), Up m → ops.all okK = true → Up (runL m ops).1
  | [], m, h, _ => h
  | o :: t, m, h, ha => by
    rw [List.all_cons, Bool.and_eq_true] at ha
    exact run_up t _ (do_up h ha.1) ha.2
theorem put_form {A B : List S51} {k v : Int} (ha : ∀ a ∈ A, a.f0 < k) (hb : ∀ b ∈ B, k ≤ b.f0) (ub : Up B) : ∃ B', (∀ b ∈ B', k < b.f0) ∧ (doL (A ++ B) ⟨2, k, v, 0⟩).1 = A ++ ⟨k, v⟩ :: B' ∧ ((B = B' ∧ hasL (A ++ B) k = false) ∨ (∃ x, B = x :: B' ∧ x.f0 = k)) := by
  have hcnt := cnt_split ha hb
  rcases behind hb ub with ⟨x, B', rfl, hx, hB'⟩ | hB
  · refine ⟨B', hB', ?_, .inr ⟨x, rfl, hx⟩⟩
    unfold doL
    rw [if_pos (by simp)]
    simp only [show ¬ ((2 : Int) = 4) by decide, if_false, has_yes hx, hcnt]
    rw [if_neg (by decide), if_pos trivial, modify_mid]
    subst hx
    rfl
  · refine ⟨B, hB, ?_, .inl ⟨rfl, has_no ha hB⟩⟩
    unfold doL
    rw [if_pos (by simp)]
    simp only [show ¬ ((2 : Int) = 4) by decide, if_false, has_no ha hB, hcnt]
    rw [if_pos trivial, insert_mid]
theorem get_at {A B : List S51} {k v : Int} (ha : ∀ a ∈ A, a.f0 < k) (hb : ∀ b ∈ B, k < b.f0) : doL (A ++ ⟨k, v⟩ :: B) ⟨1, k, 0, 0⟩ = (A ++ ⟨k, v⟩ :: B, ⟨true, 0, v, []⟩) := by
  unfold doL
  rw [if_neg (by simp)]
  unfold readL
  have h1 : hasL (A ++ ⟨k, v⟩ :: B) k = true := has_yes rfl
  have h2 : valL (A ++ ⟨k, v⟩ :: B) k = v := val_mid ha (fun b hm => by
    rcases List.mem_cons.1 hm with rfl | hm
    · exact Int.le_refl _
    · have := hb b hm; omega)
  simp [h1, h2]
theorem del_at {A B : List S51} {k v : Int} (ha : ∀ a ∈ A, a.f0 < k) (hb : ∀ b ∈ B, k < b.f0) : doL (A ++ ⟨k, v⟩ :: B) ⟨4, k, 0, 0⟩ = (A ++ B, ⟨true, 0, v, []⟩) := by
  have hle : ∀ b ∈ (⟨k, v⟩ : S51) :: B, k ≤ b.f0 := fun b hm => by
    rcases List.mem_cons.1 hm with rfl | hm
    · exact Int.le_refl _
    · have := hb b hm; omega
  unfold doL
  rw [if_pos (by simp)]
  have h1 : hasL (A ++ ⟨k, v⟩ :: B) k = true := has_yes rfl
  have h2 : valL (A ++ ⟨k, v⟩ :: B) k = v := val_mid ha hle
  have h3 := cnt_split ha hle
  simp [h1, h2, h3, erase_mid]
theorem get_no {A B : List S51} {k : Int} (ha : ∀ a ∈ A, a.f0 < k) (hb : ∀ b ∈ B, k < b.f0) : doL (A ++ B) ⟨1, k, 0, 0⟩ = (A ++ B, zR) := by
  unfold doL
  rw [if_neg (by simp)]
  unfold readL
  simp [has_no ha hb]
theorem put_get (m : List S51) (h : Up m) (k v : Int) :
    doL (doL m ⟨2, k, v, 0⟩).1 ⟨1, k, 0, 0⟩ = ((doL m ⟨2, k, v, 0⟩).1, ⟨true, 0, v, []⟩) ∧ (doL m ⟨2, k, v, 0⟩).2 = (doL m ⟨1, k, 0, 0⟩).2 ∧
    (doL (doL m ⟨2, k, v, 0⟩).1 ⟨4, k, 0, 0⟩).2 = ⟨true, 0, v, []⟩ ∧ (doL (doL (doL m ⟨2, k, v, 0⟩).1 ⟨4, k, 0, 0⟩).1 ⟨1, k, 0, 0⟩).2 = zR ∧
    (doL (doL m ⟨2, k, v, 0⟩).1 ⟨4, k, 0, 0⟩).1.length + 1 = (doL m ⟨2, k, v, 0⟩).1.length := by
  obtain ⟨A, B, rfl, ha, hb, ua, ub⟩ := up_split m k h
  obtain ⟨B', hB', hp, hc⟩ := put_form (v := v) ha hb ub
  rw [hp, get_at ha hB', del_at ha hB', get_no ha hB']
  refine ⟨rfl, ?_, rfl, rfl, by simp; omega⟩
  rcases hc with ⟨rfl, hno⟩ | ⟨x, rfl, hx⟩
  · unfold doL
    rw [if_pos (by simp), if_neg (by simp)]
    unfold readL
    simp [hno, zR]
  · unfold doL
    rw [if_pos (by simp), if_neg (by simp)]
    unfold readL
    have h1 : hasL (A ++ x :: B') k = true := has_yes hx
    simp [h1]
theorem do_same (m : List S51) (o : S25) (h : ¬ (o.f0 = 2 ∨ o.f0 = 3 ∨ o.f0 = 4)) : (doL m o).1 = m := by
  unfold doL
  rw [if_neg h]
end Go.Proofs.Ytanlnfcjdjamaaa.P
/- P9 -/
namespace Go.Proofs.Ytanlnfcjdjamaaa.P
open Go.RowKit Go.Proofs.YtanlnfcjdjamaaaW.PrintWords Go.Proofs.YtanlnfcjdjamaaaW.PrintLast Go.Proofs.YtanlnfcjdjamaaaW.PrintMore
theorem do_range (m : List S51) (h : Up m) (lo hi v : Int) : doL m ⟨9, lo, v, hi⟩ = (m, ⟨true, 0, 0, insideL m lo hi⟩) := by
  unfold doL
  rw [if_neg (by simp)]
  unfold readL
  simp [part_inside m h]
theorem inside_all (m : List S51) {lo hi : Int} (h : ∀ p ∈ m, lo ≤ p.f0 ∧ p.f0 ≤ hi) : insideL m lo hi = m := List.filter_eq_self.2 (fun p hp => by simpa using h p hp)
theorem inside_above (m : List S51) {k hi : Int} (h : ∀ p ∈ m, p.f0 ≤ hi) : insideL m (k + 1) hi = m.filter (fun p => decide (k < p.f0)) := by
  unfold insideL
  apply List.filter_congr
  intro p hp
  have := h p hp
  exact decide_eq_decide.2 (by omega)
theorem inside_below (m : List S51) {k lo : Int} (h : ∀ p ∈ m, lo ≤ p.f0) : insideL m lo (k - 1) = m.filter (fun p => decide (p.f0 < k)) := by
  unfold insideL
  apply List.filter_congr
  intro p hp
  have := h p hp
  exact decide_eq_decide.2 (by omega)
theorem do_min (m : List S51) (a b c : Int) : doL m ⟨7, a, b, c⟩ = (m, headR m) := by
  unfold doL
  rw [if_neg (by simp)]
  unfold readL
  have := told_at [] m
  simp at this
  simp [this]
theorem do_max (m : List S51) (a b c : Int) : doL m ⟨8, a, b, c⟩ = (m, optR zR m.getLast?) := by
  unfold doL
  rw [if_neg (by simp)]
  unfold readL
  have := told_last m []
  rw [List.append_nil] at this
  simp [this]
theorem do_next (m : List S51) (h : Up m) (k a b : Int) : doL m ⟨5, k, a, b⟩ = (m, headR (m.filter (fun p => decide (k < p.f0)))) := by
  obtain ⟨A, B, rfl, ha, hb, ua, ub⟩ := up_split m k h
  have hcnt := cnt_split ha hb
  unfold doL
  rw [if_neg (by simp)]
  unfold readL
  rw [List.filter_append, List.filter_eq_nil_iff.2 (fun p hp => by have := ha p hp; simp; omega), List.nil_append]
  rcases behind hb ub with ⟨x, B', rfl, hx, hB'⟩ | hB
  · rw [List.filter_cons, show decide (k < x.f0) = false from decide_eq_false (by omega), if_neg (by simp), List.filter_eq_self.2 (fun p hp => by have := hB' p hp; simpa using this)]
    have := told_at (A ++ [x]) B'
    simp at this
    simp [hcnt, has_yes hx, this]
  · rw [List.filter_eq_self.2 (fun p hp => by have := hB p hp; simpa using this)]
    have := told_at A B
    simp [hcnt, has_no ha hB, this]
theorem do_back (m : List S51) (h : Up m) (k a b : Int) : doL m ⟨6, k, a, b⟩ = (m, optR zR (m.filter (fun p => decide (p.f0 < k))).getLast?) := by
  obtain ⟨A, B, rfl, ha, hb, ua, ub⟩ := up_split m k h
  have hcnt := cnt_split ha hb
  unfold doL
  rw [if_neg (by simp)]
  unfold readL
  rw [filter_lt ha hb]
  have := told_last A B
  simp [hcnt, this]
end Go.Proofs.Ytanlnfcjdjamaaa.P
/- P6 -/
namespace Go.Proofs.Ytanlnfcjdjamaaa.P
open Go.RowKit Go.Proofs.YtanlnfcjdjamaaaW.PrintWords Go.Proofs.YtanlnfcjdjamaaaW.PrintLast Go.Proofs.YtanlnfcjdjamaaaW.PrintMore
theorem of_len (l : List S51) : (ofL l).length ≤ l.length := by
  unfold ofL
  have := last_le _ (srtL l) (Nat.le_refl _)
  rw [(srtL_st l).len] at this
  exact this
end Go.Proofs.Ytanlnfcjdjamaaa.P
/- P10 -/
namespace Go.Proofs.Ytanlnfcjdjamaaa.P
open Go.RowKit Go.Proofs.YtanlnfcjdjamaaaW.PrintWords Go.Proofs.YtanlnfcjdjamaaaW.PrintLast Go.Proofs.YtanlnfcjdjamaaaW.PrintMore
theorem mdo_val {m : List S51} (h : Up m) (hm : m.length < 100000000) (o : S25) (ho : okK o = true) : model_Do.f m o.f0 o.f1 o.f2 o.f3 = some ((doL m o).1, (doL m o).2.f0, (doL m o).2.f1, (doL m o).2.f2, (doL m o).2.f3, 0) := by
  unfold model_Do.f
  rw [if_pos hm, runF_up _ ((chk_up m).2 h)]
  have : [(⟨o.f0, o.f1, o.f2, o.f3⟩ : S25)] = [o] := rfl
  rw [this, if_pos (by simp [ho])]
  rfl
theorem doL_len (m : List S51) (o : S25) : (doL m o).1.length ≤ m.length + 1 := by
  have := (run_bounds [o] m).1
  simpa [runL] using this
theorem of_up (m : List S51) : Up (ofL m) := by rw [of_put]; exact putAll_up m [] List.Pairwise.nil
theorem of_key {m : List S51} {p : S51} (hp : p ∈ ofL m) : ∃ q ∈ m, q.f0 = p.f0 := by
  rw [of_put] at hp
  have h1 := putAll_fk p.f0 m [] List.Pairwise.nil
  have h2 : p ∈ fk p.f0 (putAll [] m) := List.mem_filter.2 ⟨hp, by simp [ky]⟩
  rw [h1] at h2
  cases hl : (fk p.f0 m).getLast? with
  | none => rw [hl] at h2; simp [fk] at h2
  | some x =>
    have hx : x ∈ fk p.f0 m := List.mem_of_getLast? hl
    obtain ⟨hx1, hx2⟩ := List.mem_filter.1 hx
    exact ⟨x, hx1, of_decide_eq_true hx2⟩
theorem end_ev (l : List S51) (i : Int) (r : S27) (hl : r.f3.length < 1000000000) (h0 : l = [] → r = zR) (h1 : ∀ x, l ≠ [] → ∃ (j : Nat) (hj : j < l.length), i = (j : Int) ∧ r = ⟨true, l[j].f0, l[j].f1, []⟩ ∨ x = 0) : Ev (fun k => larchlaw06_end.f k l i r.f0 r.f1 r.f2 r.f3) true := by
  rcases l with _ | ⟨y, t⟩
  · obtain rfl := h0 rfl
    refine (Ev.bind (rret_ev false 0 0 [] false 0 0 [] (by simp)) (Ev.const _)).congr' (sameR_refl _ _ _ _).symm fun k => ?_
    unfold larchlaw06_end.f
    rw [if_pos (by simp)]
    rfl
  · obtain ⟨j, hj, h | h⟩ := h1 1 (by simp)
    · obtain ⟨rfl, rfl⟩ := h
      refine (Ev.bind (rret_ev true (y :: t)[j].f0 (y :: t)[j].f1 [] true (y :: t)[j].f0 (y :: t)[j].f1 [] (by simp)) (Ev.const _)).congr' (sameR_refl _ _ _ _).symm fun k => ?_
      unfold larchlaw06_end.f
      rw [if_neg (by simp; omega), if_pos (by omega), if_pos (by omega), rd51_get _ _ hj]
    · exact absurd h (by decide)
theorem end_first (l : List S51) : Ev (fun k => larchlaw06_end.f k l 0 (headR l).f0 (headR l).f1 (headR l).f2 (headR l).f3) true := by
  refine end_ev l 0 (headR l) (by cases l <;> simp [headR, zR]) (fun h => by rw [h]; rfl) (fun x hx => ?_)
  rcases l with _ | ⟨y, t⟩
  · exact absurd rfl hx
  · exact ⟨0, by simp, .inl ⟨rfl, rfl⟩⟩
theorem end_last (l : List S51) : Ev (fun k => larchlaw06_end.f k l ((l.length : Int) - 1) (optR zR l.getLast?).f0 (optR zR l.getLast?).f1 (optR zR l.getLast?).f2 (optR zR l.getLast?).f3) true := by
  refine end_ev l _ _ (by cases l.getLast? <;> simp [optR, zR]) (fun h => by rw [h]; rfl) (fun x hx => ?_)
  have hp : 0 < l.length := List.length_pos_iff.2 hx
  refine ⟨l.length - 1, by omega, .inl ⟨by omega, ?_⟩⟩
  rw [List.getLast?_eq_getElem?, List.getElem?_eq_getElem (by omega)]
  rfl
theorem same_reflW (l : List S51) (hl : l.length < 1000000000) : Ev (fun k => larchref06_Same.f k l l) true := (rsame_ev l l hl).congr' (decide_eq_true rfl).symm (fun _ => rfl)
theorem fixed_evW : Ev (fun k => larchlaw06_fixed.f k) true := Ev.of_mono 12 (by kernel_rfl) larchlaw06_fixed.mono
theorem changes_valW (a : Int) : model_Changes.f a = some (decide (2 ≤ a ∧ a ≤ 4)) := by
  unfold model_Changes.f
  by_cases h2 : a = 2
  · rw [if_pos h2, decide_eq_true (by omega)]
  · rw [if_neg h2]
    by_cases h3 : a = 3
    · rw [if_pos h3, decide_eq_true (by omega)]
    · rw [if_neg h3]
      by_cases h4 : a = 4
      · rw [decide_eq_true (by omega), h4]; rfl
      · rw [decide_eq_false (by omega)]; simp [h4]
end Go.Proofs.Ytanlnfcjdjamaaa.P
