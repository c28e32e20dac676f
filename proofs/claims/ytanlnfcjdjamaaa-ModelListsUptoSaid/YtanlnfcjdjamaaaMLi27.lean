/- P.modelLists_holds, part 28 of 33: the contracts of the Go functions that the law calls, its own walk, and its plain law, for every input that the statement speaks of. -/
import Derived.Test.YtanlnfcjdjamaaaMLi10
import Derived.Test.YtanlnfcjdjamaaaMLi17
import Derived.Test.YtanlnfcjdjamaaaMLi19
import Derived.Test.YtanlnfcjdjamaaaMLi2
import Derived.Test.YtanlnfcjdjamaaaMLi26
import Derived.Test.YtanlnfcjdjamaaaMLi24
import Derived.Test.YtanlnfcjdjamaaaMLi8
import Derived.Test.YtanlnfcjdjamaaaMLi3
set_option linter.unusedVariables false
set_option linter.unusedSimpArgs false
/- P1 -/
namespace Go.Proofs.Ytanlnfcjdjamaaa.P
open Go.RowKit Go.Proofs.YtanlnfcjdjamaaaW.PrintWords Go.Proofs.YtanlnfcjdjamaaaW.PrintLast Go.Proofs.YtanlnfcjdjamaaaW.PrintMore
theorem rcheck_go (l : List S51) (hl : l.length < 1000000000) : ∀ d (j : Nat), j + 1 + d = l.length ∨ (d = 0 ∧ l.length ≤ j + 1) → Ev (fun k => larchref06_Check.l0 k l ((j + 1 : Nat) : Int)) (if chkUp (l.drop j) then 0 else 11)
  | 0, j, hd => by
    refine Ev.succ ((Ev.const 0).congr' (by rw [chk_end l j (by omega)]; rfl) fun k => ?_)
    simp only [larchref06_Check.l0]
    rw [if_neg (by omega)]
  | d + 1, j, hd => by
    have e1 : wrap64 (((j + 1 : Nat) : Int) - 1) = (j : Int) := by unfold wrap64; omega
    have e2 : wrap64 (((j + 1 : Nat) : Int) + 1) = ((j + 1 + 1 : Nat) : Int) := by unfold wrap64; omega
    rw [chk_drop l j (by omega)]
    by_cases hc : (J51 l ((j + 1 : Nat) : Int)).f0 ≤ (J51 l (j : Int)).f0
    · refine Ev.succ ((Ev.const 11).congr' (by rw [decide_eq_false (by omega)]; rfl) fun k => ?_)
      simp only [larchref06_Check.l0]
      rw [if_pos (by omega), if_pos (by omega), e1, if_pos (by omega), if_pos (by omega), if_pos hc]
    · refine Ev.succ ((rcheck_go l hl d (j + 1) (by omega)).congr' (by rw [decide_eq_true (by omega), Bool.true_and]) fun k => ?_)
      simp only [larchref06_Check.l0]
      rw [if_pos (by omega), if_pos (by omega), e1, if_pos (by omega), if_pos (by omega), if_neg hc, e2]
theorem rcheck_ev (l : List S51) (hl : l.length < 1000000000) : Ev (fun k => larchref06_Check.f k l) (if chkUp l then 0 else 11) := by
  have := rcheck_go l hl (l.length - 1) 0 (by omega)
  rw [List.drop_zero] at this
  exact this
theorem rkind_val (o : S25) : larchref06_Kind.f o.f0 = some (if okK o then 0 else 5) := by
  unfold larchref06_Kind.f okK
  by_cases h1 : o.f0 < 1
  · rw [if_pos h1, decide_eq_false (by omega)]; rfl
  · rw [if_neg h1]
    by_cases h2 : o.f0 > 9
    · rw [if_pos h2, decide_eq_false (by omega)]; rfl
    · rw [if_neg h2, decide_eq_true (by omega)]; rfl
theorem rcheck_up (m : List S51) (hm : m.length < 100000000) (hc : chkUp m = true) : Ev (fun k => larchref06_Check.f k m) 0 := by
  have h := rcheck_ev m (by omega)
  rwa [if_pos hc] at h
theorem rcheck_no (m : List S51) (hm : m.length < 100000000) (hc : chkUp m = false) : Ev (fun k => larchref06_Check.f k m) 11 := by
  have h := rcheck_ev m (by omega)
  rwa [hc, if_neg (by simp)] at h
instance : DecidableEq S51 := fun x y => decidable_of_iff (x.f0 = y.f0 ∧ x.f1 = y.f1) (by cases x; cases y; simp)
theorem pair_eq (x y : S51) : ((!(x.f0 == y.f0)) || (!(x.f1 == y.f1))) = !decide (x = y) := by
  rw [show decide (x = y) = decide (x.f0 = y.f0 ∧ x.f1 = y.f1) from decide_eq_decide.2 (by cases x; cases y; simp)]
  by_cases h1 : x.f0 = y.f0 <;> by_cases h2 : x.f1 = y.f1 <;> simp [h1, h2]
theorem rsame_go (a b : List S51) (hl : a.length < 1000000000) (he : a.length = b.length) : ∀ d (j : Nat), j + d = a.length → Ev (fun k => larchref06_Same.l0 k a b (j : Int)) (decide (a.drop j = b.drop j))
  | 0, j, hd => by
    refine Ev.succ ((Ev.const true).congr' (by rw [List.drop_eq_nil_of_le (by omega), List.drop_eq_nil_of_le (by omega)]; simp) fun k => ?_)
    simp only [larchref06_Same.l0]
    rw [if_neg (by omega)]
  | d + 1, j, hd => by
    rw [drop51 a j (by omega), drop51 b j (by omega)]
    by_cases h : J51 a (j : Int) = J51 b (j : Int)
    · refine Ev.succ ((rsame_go a b hl he d (j + 1) (by omega)).congr' (by simp [h]) fun k => ?_)
      simp only [larchref06_Same.l0, pair_eq]
      rw [if_pos (by omega), if_pos (by omega), if_pos (by omega), if_neg (by simp [h]), wrap_succ (by omega)]
    · refine Ev.succ ((Ev.const false).congr' (by simp [h]) fun k => ?_)
      simp only [larchref06_Same.l0, pair_eq]
      rw [if_pos (by omega), if_pos (by omega), if_pos (by omega), if_pos (by simp [h])]
theorem rsame_ev (a b : List S51) (hl : a.length < 1000000000) : Ev (fun k => larchref06_Same.f k a b) (decide (a = b)) := by
  unfold larchref06_Same.f
  by_cases he : a.length = b.length
  · refine (rsame_go a b hl he a.length 0 (by omega)).congr fun k => ?_
    rw [if_pos (by omega)]
    rfl
  · refine (Ev.const false).congr' (decide_eq_false (fun h => he (by rw [h]))) fun k => ?_
    rw [if_neg (by omega)]
theorem msame_go (a b : List S51) (hl : a.length < 1000000000) (he : a.length = b.length) : ∀ d (j : Nat), j + d = a.length → Ev (fun k => api_Pair_49.l0 k a b (a.length : Int) (j : Int)) (decide (a.drop j = b.drop j))
  | 0, j, hd => by
    refine Ev.succ ((Ev.const true).congr' (by rw [List.drop_eq_nil_of_le (by omega), List.drop_eq_nil_of_le (by omega)]; simp) fun k => ?_)
    simp only [api_Pair_49.l0]
    rw [if_neg (by omega)]
  | d + 1, j, hd => by
    rw [drop51 a j (by omega), drop51 b j (by omega)]
    by_cases h : J51 a (j : Int) = J51 b (j : Int)
    · refine Ev.succ ((msame_go a b hl he d (j + 1) (by omega)).congr' (by simp [h]) fun k => ?_)
      simp only [api_Pair_49.l0, pair_eq]
      rw [if_pos (by omega), if_pos (by omega), if_pos (by omega), if_pos (by omega), if_neg (by simp [h]), wrap_succ (by omega)]
    · refine Ev.succ ((Ev.const false).congr' (by simp [h]) fun k => ?_)
      simp only [api_Pair_49.l0, pair_eq]
      rw [if_pos (by omega), if_pos (by omega), if_pos (by omega), if_pos (by omega), if_pos (by simp [h])]
theorem msame_ev (a b : List S51) (hl : a.length < 1000000000) : Ev (fun k => model_Same.f k a b) (decide (a = b)) := by
  unfold model_Same.f api_Pair_49.f
  refine Ev.bind (x := decide (a = b)) ?_ (Ev.const _)
  by_cases he : a.length = b.length
  · refine (msame_go a b hl he a.length 0 (by omega)).congr fun k => ?_
    rw [if_pos (by omega)]
    rfl
  · refine (Ev.const false).congr' (decide_eq_false (fun h => he (by rw [h]))) fun k => ?_
    rw [if_neg (by omega)]
def sameR (b : Bool) (x y : Int) (l : List S51) (b' : Bool) (x' y' : Int) (l' : List S51) : Bool := decide (b = b' ∧ x = x' ∧ y = y' ∧ l = l')
theorem same_ret {f : Nat → Option Bool} {b : Bool} {x y : Int} {l : List S51} {b' : Bool} {x' y' : Int} {l' : List S51} (h : Ev f (decide (l = l'))) :
    Ev (fun k => if (b == b') = true then (if x = x' then (if y = y' then ((f k).bind fun t => (some t)) else (some false)) else (some false)) else (some false)) (sameR b x y l b' x' y' l') := by
  unfold sameR
  by_cases h1 : b = b'
  · by_cases h2 : x = x'
    · by_cases h3 : y = y'
      · refine (Ev.bind h (Ev.const _)).congr' (by simp [h1, h2, h3]) fun k => ?_
        rw [if_pos (by simp [h1]), if_pos h2, if_pos h3]
      · refine (Ev.const false).congr' (by simp [h3]) fun k => ?_
        rw [if_pos (by simp [h1]), if_pos h2, if_neg h3]
    · refine (Ev.const false).congr' (by simp [h2]) fun k => ?_
      rw [if_pos (by simp [h1]), if_neg h2]
  · refine (Ev.const false).congr' (by simp [h1]) fun k => ?_
    rw [if_neg (by simp [h1])]
theorem rret_ev (b : Bool) (x y : Int) (l : List S51) (b' : Bool) (x' y' : Int) (l' : List S51) (hl : l.length < 1000000000) : Ev (fun k => larchref06_SameRet.f k b x y l b' x' y' l') (sameR b x y l b' x' y' l') := by
  unfold larchref06_SameRet.f
  exact same_ret (rsame_ev l l' hl)
theorem mret_ev (b : Bool) (x y : Int) (l : List S51) (b' : Bool) (x' y' : Int) (l' : List S51) (hl : l.length < 1000000000) : Ev (fun k => model_SameRet.f k b x y l b' x' y' l') (sameR b x y l b' x' y' l') := by
  unfold model_SameRet.f
  exact same_ret (msame_ev l l' hl)
theorem sameR_refl (b : Bool) (x y : Int) (l : List S51) : sameR b x y l b x y l = true := by simp [sameR]
end Go.Proofs.Ytanlnfcjdjamaaa.P
/- P3 -/
namespace Go.Proofs.Ytanlnfcjdjamaaa.P
open Go.RowKit Go.Proofs.YtanlnfcjdjamaaaW.PrintWords Go.Proofs.YtanlnfcjdjamaaaW.PrintLast Go.Proofs.YtanlnfcjdjamaaaW.PrintMore
def fk (k : Int) (l : List S51) : List S51 := l.filter (fun a => decide (ky a = k))
theorem fk_nil_of {k : Int} {l : List S51} (h : ∀ a ∈ l, ky a ≠ k) : fk k l = [] := List.filter_eq_nil_iff.2 (fun a ha => by simpa using h a ha)
theorem fk_app (k : Int) (a b : List S51) : fk k (a ++ b) = fk k a ++ fk k b := List.filter_append ..
theorem fk_cons (k : Int) (a : S51) (b : List S51) : fk k (a :: b) = if ky a = k then a :: fk k b else fk k b := by
  unfold fk
  rw [List.filter_cons]
  by_cases h : ky a = k <;> simp [h]
theorem up_srt {l : List S51} (h : Up l) : Sym.Srt ky l := List.Pairwise.imp (fun hab => by unfold ky; omega) h
theorem with_up {l : List S51} (h : Up l) (key val : Int) : Up (withL key val false l) := by
  have := do_step l h ⟨2, key, val, 0⟩ (show (1 : Int) ≤ 2 by decide) (show (2 : Int) ≤ 9 by decide)
  have h2 : (doL l ⟨2, key, val, 0⟩).1 = withL key val false l := by
    rw [this.1]
    unfold stepL
    simp
  rw [← h2]
  exact this.2
theorem with_fk {l : List S51} (h : Up l) (key val : Int) (k : Int) : fk k (withL key val false l) = if key = k then [⟨key, val⟩] else fk k l := by
  obtain ⟨A, B, rfl, ha, hb, ua, ub⟩ := up_split l key h
  rw [with_split ha, fk_app, fk_app]
  rcases behind hb ub with ⟨x, B', rfl, hx, hB'⟩ | hB
  · rw [with_yes hx hB', fk_cons, fk_cons]
    by_cases hk : key = k
    · rw [if_pos hk, if_pos (show ky (⟨key, val⟩ : S51) = k from hk), fk_nil_of (fun a hm => by have := ha a hm; unfold ky; omega), fk_nil_of (fun a hm => by have := hB' a hm; unfold ky; omega)]
      rfl
    · rw [if_neg hk, if_neg (show ¬ ky (⟨key, val⟩ : S51) = k from hk), if_neg (by unfold ky; omega)]
  · rw [with_no hB, fk_cons]
    by_cases hk : key = k
    · rw [if_pos hk, if_pos (show ky (⟨key, val⟩ : S51) = k from hk), fk_nil_of (fun a hm => by have := ha a hm; unfold ky; omega), fk_nil_of (fun a hm => by have := hB a hm; unfold ky; omega)]
      rfl
    · rw [if_neg hk, if_neg (show ¬ ky (⟨key, val⟩ : S51) = k from hk)]
theorem with_len0 (key val : Int) : ∀ (l : List S51), (withL key val false l).length ≤ l.length + 1
  | [] => by simp [withL]
  | x :: r => by
    have h1 : (withL key val true r).length ≤ r.length := by rw [with_true]; exact List.length_filter_le _ _
    have h0 := with_len0 key val r
    rw [withL]
    by_cases h : key ≤ x.f0
    · rw [decide_eq_true h, Bool.or_true, if_pos ⟨rfl, h⟩]
      split <;> simp <;> omega
    · rw [decide_eq_false h, Bool.or_false, if_neg (by omega)]
      split <;> simp <;> omega
def putAll : List S51 → List S51 → List S51
  | m, [] => m
  | m, x :: r => putAll (withL x.f0 x.f1 false m) r
theorem putAll_up : ∀ (l m : List S51), Up m → Up (putAll m l)
  | [], m, h => h
  | x :: r, m, h => putAll_up r _ (with_up h x.f0 x.f1)
theorem getLast_cons_some {α : Type} {a y : α} {r : List α} (h : r.getLast? = some y) : (a :: r).getLast? = some y := by
  cases r with
  | nil => simp at h
  | cons b r => rw [List.getLast?_cons_cons]; exact h
theorem putAll_fk (k : Int) : ∀ (l m : List S51), Up m → fk k (putAll m l) = match (fk k l).getLast? with | none => fk k m | some x => [x]
  | [], m, h => rfl
  | x :: r, m, h => by
    rw [putAll, putAll_fk k r _ (with_up h x.f0 x.f1), with_fk h, fk_cons]
    by_cases hk : x.f0 = k
    · rw [if_pos hk, if_pos (show ky x = k from hk)]
      cases hg : (fk k r).getLast? with
      | none =>
        have : fk k r = [] := List.getLast?_eq_none_iff.1 hg
        rw [this]
        rfl
      | some y => rw [getLast_cons_some hg]
    · rw [if_neg hk, if_neg (show ¬ ky x = k from hk)]
theorem last_sub : ∀ (n : Nat) (l : List S51), l.length ≤ n → (lastL l).Sublist l
  | n, [], _ => by simp [lastL]
  | n, [x], _ => by simp [lastL]
  | n + 1, x :: y :: r, h => by
    rw [lastL]
    have := last_sub n (y :: r) (by simp at h ⊢; omega)
    split
    · exact this.cons x
    · exact this.cons_cons x
theorem last_fk (k : Int) : ∀ (n : Nat) (l : List S51), l.length ≤ n → Sym.Srt ky l → fk k (lastL l) = match (fk k l).getLast? with | none => [] | some x => [x]
  | n, [], _, _ => by simp [lastL, fk]
  | n, [x], _, _ => by
    rw [lastL, fk_cons]
    by_cases hk : ky x = k
    · rw [if_pos hk]; simp [fk]
    · rw [if_neg hk]; simp [fk]
  | n + 1, x :: y :: r, h, hs => by
    have hs' := List.pairwise_cons.1 hs
    have ih := last_fk k n (y :: r) (by simp at h ⊢; omega) hs'.2
    rw [lastL, fk_cons]
    split
    · rename_i he
      rw [ih]
      by_cases hk : ky x = k
      · rw [if_pos hk]
        cases hg : (fk k (y :: r)).getLast? with
        | none =>
          have h0 : fk k (y :: r) = [] := List.getLast?_eq_none_iff.1 hg
          rw [fk_cons, if_pos (show ky y = k by unfold ky at hk ⊢; omega)] at h0
          cases h0
        | some z => rw [getLast_cons_some hg]
      · rw [if_neg hk]
    · rename_i he
      rw [fk_cons]
      by_cases hk : ky x = k
      · have h0 : fk k (y :: r) = [] := fk_nil_of (fun a ha => by
          have h1 := hs'.1 y (by simp)
          have h2 : ky y ≤ ky a := by
            rcases List.mem_cons.1 ha with rfl | ha
            · exact Int.le_refl _
            · exact (List.pairwise_cons.1 hs'.2).1 a ha
          unfold ky at *; omega)
        rw [if_pos hk, if_pos hk, h0] 
        rw [h0] at ih
        rw [ih]
        rfl
      · rw [if_neg hk, if_neg hk, ih]
theorem of_put (l : List S51) : ofL l = putAll [] l := by
  have hs := srtL_st l
  refine Sym.srt_eq ky _ _ (List.Pairwise.sublist (last_sub _ (srtL l) (Nat.le_refl _)) hs.srt) (up_srt (putAll_up l [] List.Pairwise.nil)) (fun k => ?_)
  show fk k (ofL l) = fk k (putAll [] l)
  rw [putAll_fk k l [] List.Pairwise.nil]
  unfold ofL
  rw [last_fk k _ (srtL l) (Nat.le_refl _) hs.srt, show fk k (srtL l) = fk k l from hs.same k]
  cases (fk k l).getLast? <;> rfl
theorem rof_go (l : List S51) (hl : l.length < 100000000) : ∀ d (j : Nat) (m : List S51), j + d = l.length → m.length ≤ j → Ev (fun k => larchref06_Of.l0 k l m (j : Int)) (putAll m (l.drop j))
  | 0, j, m, hd, hm => by
    refine Ev.succ ((Ev.const m).congr' (by rw [List.drop_eq_nil_of_le (by omega)]; rfl) fun k => ?_)
    simp only [larchref06_Of.l0]
    rw [if_neg (by omega)]
  | d + 1, j, m, hd, hm => by
    rw [drop51 l j (by omega), putAll]
    have hw := with_len0 (J51 l (j : Int)).f0 (J51 l (j : Int)).f1 m
    refine Ev.succ ((Ev.bind (g := fun k t => larchref06_Of.l0 k l t ((j + 1 : Nat) : Int)) (with_ev m (by omega) (J51 l (j : Int)).f0 (J51 l (j : Int)).f1 false) (rof_go l hl d (j + 1) _ (by omega) (by omega))).congr fun k => ?_)
    simp only [larchref06_Of.l0]
    rw [if_pos (by omega), if_pos (by omega), wrap_succ (by omega)]
theorem rof_ev (l : List S51) (hl : l.length < 100000000) : Ev (fun k => larchref06_Of.f k l) (ofL l) := by
  rw [of_put]
  have := rof_go l hl l.length 0 [] (by omega) (Nat.le_refl _)
  rw [List.drop_zero] at this
  exact this
end Go.Proofs.Ytanlnfcjdjamaaa.P
/- P4 -/
namespace Go.Proofs.Ytanlnfcjdjamaaa.P
open Go.RowKit Go.Proofs.YtanlnfcjdjamaaaW.PrintWords Go.Proofs.YtanlnfcjdjamaaaW.PrintLast Go.Proofs.YtanlnfcjdjamaaaW.PrintMore
theorem mcheck_ev (m : List S51) (hm : m.length < 100000000) : Ev (fun k => model_Check.f k m) (if chkUp m then 0 else 11) := by
  refine ⟨m.length + 1, fun k hk => ?_⟩
  have := check_go m (by omega) (m.length - 1) 0 k (by omega) (by omega)
  rw [List.drop_zero] at this
  exact this
theorem mcheck_up (m : List S51) (hm : m.length < 100000000) (hc : chkUp m = true) : Ev (fun k => model_Check.f k m) 0 := by
  have h := mcheck_ev m hm
  rwa [if_pos hc] at h
theorem mcheck_no (m : List S51) (hm : m.length < 100000000) (hc : chkUp m = false) : Ev (fun k => model_Check.f k m) 11 := by
  have h := mcheck_ev m hm
  rwa [hc, if_neg (by simp)] at h
theorem look_has (key : Int) : ∀ l : List S51, (lookL key l).2 = hasL l key
  | [] => rfl
  | x :: r => by
    rw [lookL]
    unfold hasL
    rw [List.any_cons]
    by_cases h : x.f0 = key
    · rw [if_pos h]; simp [h]
    · rw [if_neg h, look_has key r]; unfold hasL; simp [h]
def findV (m : List S51) (key : Int) : Int × Bool × Int := if chkUp m then ((cntL m key : Int), hasL m key, 0) else (0, false, 11)
theorem mfind_ev (m : List S51) (hm : m.length < 100000000) (key : Int) : Ev (fun k => model_Find.f k m key) (findV m key) := by
  unfold model_Find.f findV
  by_cases hc : chkUp m = true
  · refine Ev.bind (mcheck_up m hm hc) ?_
    refine (Ev.const _).congr' (by rw [if_pos hc]) fun k => ?_
    rw [if_pos rfl, find_up m ((chk_up m).1 hc) (by omega) key]
    rfl
  · have hc : chkUp m = false := by simpa using hc
    refine Ev.bind (mcheck_no m hm hc) ?_
    refine (Ev.const (0, false, 11)).congr' (by rw [hc]; rfl) fun k => ?_
    rw [if_neg (by decide)]
theorem rfind_go (m : List S51) (hm : m.length < 100000000) (key : Int) : ∀ d (j n : Nat), j + d = m.length → n ≤ j → Ev (fun k => larchref06_Find.l0 k m key (n : Int) (j : Int)) (((n + cntL (m.drop j) key : Nat) : Int), hasL m key, 0)
  | 0, j, n, hd, hn => by
    refine Ev.succ ((Ev.bind (g := fun _ t => some ((n : Int), t.2, (0 : Int))) (look_ev m (by omega) key) (Ev.const _)).congr' (by rw [look_has, List.drop_eq_nil_of_le (by omega)]; simp [cntL]) fun k => ?_)
    simp only [larchref06_Find.l0]
    rw [if_neg (by omega)]
  | d + 1, j, n, hd, hn => by
    have hdr := drop51 m j (by omega)
    by_cases h : (J51 m (j : Int)).f0 < key
    · refine Ev.succ ((rfind_go m hm key d (j + 1) (n + 1) (by omega) (by omega)).congr' (by rw [hdr]; unfold cntL; rw [List.filter_cons, if_pos (by simpa using h)]; simp; omega) fun k => ?_)
      simp only [larchref06_Find.l0]
      rw [if_pos (by omega), if_pos (by omega), if_pos h, wrap_succ (by omega), wrap_succ (by omega)]
    · refine Ev.succ ((rfind_go m hm key d (j + 1) n (by omega) (by omega)).congr' (by rw [hdr]; unfold cntL; rw [List.filter_cons, if_neg (by simpa using h)]) fun k => ?_)
      simp only [larchref06_Find.l0]
      rw [if_pos (by omega), if_pos (by omega), if_neg h, wrap_succ (by omega)]
theorem rfind_ev (m : List S51) (hm : m.length < 100000000) (key : Int) : Ev (fun k => larchref06_Find.f k m key) (findV m key) := by
  unfold larchref06_Find.f findV
  by_cases hc : chkUp m = true
  · refine Ev.bind (rcheck_up m hm hc) ?_
    refine (rfind_go m hm key m.length 0 0 (by omega) (Nat.le_refl _)).congr' (by rw [if_pos hc, List.drop_zero, Nat.zero_add]) fun k => ?_
    rw [if_pos rfl]
    rfl
  · have hc : chkUp m = false := by simpa using hc
    refine Ev.bind (rcheck_no m hm hc) ?_
    refine (Ev.const (0, false, 11)).congr' (by rw [hc]; rfl) fun k => ?_
    rw [if_neg (by decide)]
def partV (m : List S51) (lo hi : Int) : List S51 × Int := if chkUp m then (insideL m lo hi, 0) else ([], 11)
theorem mpart_ev (m : List S51) (hm : m.length < 100000000) (lo hi : Int) : Ev (fun k => model_Part.f k m lo hi) (partV m lo hi) := by
  unfold model_Part.f partV
  by_cases hc : chkUp m = true
  · refine Ev.bind (mcheck_up m hm hc) ?_
    refine (Ev.const _).congr' (by rw [if_pos hc]) fun k => ?_
    rw [if_pos rfl, part_up m ((chk_up m).1 hc) (by omega), part_inside m ((chk_up m).1 hc)]
    rfl
  · have hc : chkUp m = false := by simpa using hc
    refine Ev.bind (mcheck_no m hm hc) ?_
    refine (Ev.const ([], 11)).congr' (by rw [hc]; rfl) fun k => ?_
    rw [if_neg (by decide)]
theorem rpart_ev (m : List S51) (hm : m.length < 100000000) (lo hi : Int) : Ev (fun k => larchref06_Part.f k m lo hi) (partV m lo hi) := by
  unfold larchref06_Part.f partV
  by_cases hc : chkUp m = true
  · refine Ev.bind (rcheck_up m hm hc) ?_
    refine (Ev.bind (g := fun _ t => some (t, (0 : Int))) (inside_ev m (by omega) lo hi) (Ev.const _)).congr' (by rw [if_pos hc]) fun k => ?_
    rw [if_pos rfl]
  · have hc : chkUp m = false := by simpa using hc
    refine Ev.bind (rcheck_no m hm hc) ?_
    refine (Ev.const ([], 11)).congr' (by rw [hc]; rfl) fun k => ?_
    rw [if_neg (by decide)]
theorem changes_both (a : Int) : ∃ c, model_Changes.f a = some c ∧ larchref06_Changes.f a = some c := by
  refine ⟨decide (2 ≤ a ∧ a ≤ 4), ?_, ?_⟩
  · unfold model_Changes.f
    by_cases h2 : a = 2
    · rw [if_pos h2, decide_eq_true (by omega)]
    · rw [if_neg h2]
      by_cases h3 : a = 3
      · rw [if_pos h3, decide_eq_true (by omega)]
      · rw [if_neg h3]
        by_cases h4 : a = 4
        · rw [decide_eq_true (by omega), h4]; rfl
        · rw [decide_eq_false (by omega)]; simp [h4]
  · unfold larchref06_Changes.f
    by_cases h2 : a ≥ 2
    · rw [if_pos h2]; congr 1; exact decide_eq_decide.2 (by omega)
    · rw [if_neg h2, decide_eq_false (by omega)]
def plainV (a b c d : Int) : Int × Int × Int × Int := (a, (if 1 ≤ a ∧ a ≤ 6 ∨ a = 9 then b else 0), (if a = 2 ∨ a = 3 then c else 0), (if a = 9 then d else 0))
theorem kinds_cases (a : Int) : a = 1 ∨ a = 2 ∨ a = 3 ∨ a = 4 ∨ a = 5 ∨ a = 6 ∨ a = 7 ∨ a = 8 ∨ a = 9 ∨ (a < 1 ∨ 9 < a) := by omega
theorem mplain_ev (a b c d : Int) : Ev (fun k => model_Plain.f k a b c d) (plainV a b c d) := by
  refine Ev.of_mono 2 ?_ (model_Plain.mono a b c d)
  rcases kinds_cases a with rfl | rfl | rfl | rfl | rfl | rfl | rfl | rfl | rfl | h
  any_goals (simp [model_Plain.f, model_Plain.j0, model_Plain.j1, plainV]; done)
  have n1 : a ≠ 1 := by omega
  have n2 : a ≠ 2 := by omega
  have n3 : a ≠ 3 := by omega
  have n4 : a ≠ 4 := by omega
  have n5 : a ≠ 5 := by omega
  have n6 : a ≠ 6 := by omega
  have n9 : a ≠ 9 := by omega
  have n16 : ¬ (1 ≤ a ∧ a ≤ 6 ∨ a = 9) := by omega
  simp [model_Plain.f, model_Plain.j0, model_Plain.j1, plainV, n1, n2, n3, n4, n5, n6, n9]
  omega
theorem rplain_ev (a b c d : Int) : Ev (fun k => larchref06_Plain.f k a b c d) (plainV a b c d) := by
  refine Ev.of_mono 3 ?_ (larchref06_Plain.mono a b c d)
  rcases kinds_cases a with rfl | rfl | rfl | rfl | rfl | rfl | rfl | rfl | rfl | h
  any_goals (simp [larchref06_Plain.f, larchref06_Plain.j0, larchref06_Plain.j1, larchref06_Plain.j2, larchref06_Kind.f, plainV]; done)
  have n2 : a ≠ 2 := by omega
  have n3 : a ≠ 3 := by omega
  have n9 : a ≠ 9 := by omega
  have n16 : ¬ (1 ≤ a ∧ a ≤ 6 ∨ a = 9) := by omega
  have hk : larchref06_Kind.f a = some 5 := by
    unfold larchref06_Kind.f
    by_cases h1 : a < 1
    · rw [if_pos h1]
    · rw [if_neg h1, if_pos (by omega)]
  simp [larchref06_Plain.f, hk, larchref06_Plain.j0, larchref06_Plain.j1, larchref06_Plain.j2, plainV, n2, n3, n9]
  omega
end Go.Proofs.Ytanlnfcjdjamaaa.P
/- P5 -/
namespace Go.Proofs.Ytanlnfcjdjamaaa.P
open Go.RowKit Go.Proofs.YtanlnfcjdjamaaaW.PrintWords Go.Proofs.YtanlnfcjdjamaaaW.PrintLast Go.Proofs.YtanlnfcjdjamaaaW.PrintMore
def dL : Nat → List S51 → List S51 → List Int
  | 0, _, _ => []
  | _ + 1, [], [] => []
  | n + 1, x :: a, [] => x.f0 :: dL n a []
  | n + 1, [], y :: b => y.f0 :: dL n [] b
  | n + 1, x :: a, y :: b => if x.f0 < y.f0 then x.f0 :: dL n a (y :: b) else if y.f0 < x.f0 then y.f0 :: dL n (x :: a) b else if x.f1 = y.f1 then dL n a b else x.f0 :: dL n a b
theorem il (n : Nat) : (1 : Int) ≤ (n : Int) + 1 := by omega
theorem il0 (n : Nat) : (0 : Int) < (n : Int) + 1 := by omega
theorem iln (n : Nat) : ¬ ((n : Int) + 1 = 0) := by omega
theorem rd0 (x : S51) (a : List S51) : J51 (x :: a) 0 = x := rfl
theorem mdiff_go : ∀ (n : Nat) (a b : List S51) (out : List Int), a.length + b.length ≤ n → out.length + n < 1000000000 → Ev (fun k => model_Differ.l0 k a b out) (out ++ dL n a b, 0)
  | 0, [], [], out, _, _ => by
    refine Ev.succ (Ev.succ ((Ev.const (out, 0)).congr' (by simp [dL]) fun k => ?_))
    simp [model_Differ.l0, model_Differ.j2]
  | 0, x :: a, b, out, hn, _ => by simp at hn
  | 0, [], y :: b, out, hn, _ => by simp at hn
  | n + 1, [], [], out, _, _ => by
    refine Ev.succ (Ev.succ ((Ev.const (out, 0)).congr' (by simp [dL]) fun k => ?_))
    simp [model_Differ.l0, model_Differ.j2]
  | n + 1, x :: a, [], out, hn, ho => by
    simp only [List.length_cons, List.length_nil] at hn
    refine Ev.succ (Ev.succ (Ev.succ ((mdiff_go n a [] (out ++ [x.f0]) (by simp; omega) (by simp; omega)).congr' (by simp [dL]) fun k => ?_)))
    simp only [model_Differ.l0, model_Differ.j2, model_Differ.j3]
    simp [rd0, il, il0, iln, show out.length < 17592186044416 by omega]
  | n + 1, [], y :: b, out, hn, ho => by
    simp only [List.length_cons, List.length_nil] at hn
    refine Ev.succ (Ev.succ (Ev.succ (Ev.succ ((mdiff_go n [] b (out ++ [y.f0]) (by simp; omega) (by simp; omega)).congr' (by simp [dL]) fun k => ?_))))
    simp only [model_Differ.l0, model_Differ.j2, model_Differ.j3, model_Differ.j4]
    simp [rd0, il, il0, iln, show out.length < 17592186044416 by omega]
  | n + 1, x :: a, y :: b, out, hn, ho => by
    simp only [List.length_cons] at hn
    by_cases h1 : x.f0 < y.f0
    · refine Ev.succ (Ev.succ (Ev.succ ((mdiff_go n a (y :: b) (out ++ [x.f0]) (by simp; omega) (by simp; omega)).congr' (by simp [dL, h1]) fun k => ?_)))
      simp only [model_Differ.l0, model_Differ.j2, model_Differ.j3]
      simp [rd0, il, il0, iln, h1, show out.length < 17592186044416 by omega]
    · by_cases h2 : y.f0 < x.f0
      · refine Ev.succ (Ev.succ (Ev.succ (Ev.succ ((mdiff_go n (x :: a) b (out ++ [y.f0]) (by simp; omega) (by simp; omega)).congr' (by simp [dL, h1, h2]) fun k => ?_))))
        simp only [model_Differ.l0, model_Differ.j2, model_Differ.j3, model_Differ.j4]
        simp [rd0, il, il0, iln, h1, h2, show out.length < 17592186044416 by omega]
      · by_cases h3 : x.f1 = y.f1
        · refine Ev.succ (Ev.succ (Ev.succ (Ev.succ ((mdiff_go n a b out (by omega) (by omega)).congr' (by simp [dL, h1, h2, h3]) fun k => ?_))))
          simp only [model_Differ.l0, model_Differ.j2, model_Differ.j3, model_Differ.j4]
          simp [rd0, il, il0, iln, h1, h2, h3]
        · refine Ev.succ (Ev.succ (Ev.succ (Ev.succ ((mdiff_go n a b (out ++ [x.f0]) (by omega) (by simp; omega)).congr' (by simp [dL, h1, h2, h3]) fun k => ?_))))
          simp only [model_Differ.l0, model_Differ.j2, model_Differ.j3, model_Differ.j4]
          simp [rd0, il, il0, iln, h1, h2, h3, show out.length < 17592186044416 by omega]
end Go.Proofs.Ytanlnfcjdjamaaa.P
/- P6 -/
namespace Go.Proofs.Ytanlnfcjdjamaaa.P
open Go.RowKit Go.Proofs.YtanlnfcjdjamaaaW.PrintWords Go.Proofs.YtanlnfcjdjamaaaW.PrintLast Go.Proofs.YtanlnfcjdjamaaaW.PrintMore
theorem inc_ext : ∀ X Y : List Int, X.Pairwise (· < ·) → Y.Pairwise (· < ·) → (∀ k, k ∈ X ↔ k ∈ Y) → X = Y
  | [], [], _, _, _ => rfl
  | [], y :: Y, _, _, h => by have := (h y).2 (by simp); simp at this
  | x :: X, [], _, _, h => by have := (h x).1 (by simp); simp at this
  | x :: X, y :: Y, hx, hy, h => by
    have hx' := List.pairwise_cons.1 hx
    have hy' := List.pairwise_cons.1 hy
    have hxy : x = y := by
      rcases List.mem_cons.1 ((h x).1 (by simp)) with h1 | h1
      · exact h1
      · rcases List.mem_cons.1 ((h y).2 (by simp)) with h2 | h2
        · exact h2.symm
        · have := hy'.1 x h1; have := hx'.1 y h2; omega
    subst hxy
    refine congrArg (x :: ·) (inc_ext X Y hx'.2 hy'.2 (fun k => ⟨fun hk => ?_, fun hk => ?_⟩))
    · rcases List.mem_cons.1 ((h k).1 (by simp [hk])) with h1 | h1
      · have := hx'.1 k hk; omega
      · exact h1
    · rcases List.mem_cons.1 ((h k).2 (by simp [hk])) with h1 | h1
      · have := hy'.1 k hk; omega
      · exact h1
theorem look_absent {key : Int} : ∀ {l : List S51}, (∀ z ∈ l, z.f0 ≠ key) → lookL key l = (0, false)
  | [], _ => rfl
  | x :: r, h => by rw [lookL, if_neg (h x (by simp))]; exact look_absent (fun z hz => h z (by simp [hz]))
theorem up_cons {x : S51} {a : List S51} (h : Up (x :: a)) : (∀ z ∈ a, x.f0 < z.f0) ∧ Up a := List.pairwise_cons.1 h
theorem mem_dL : ∀ (n : Nat) (a b : List S51) (κ : Int), a.length + b.length ≤ n → Up a → Up b → (κ ∈ dL n a b ↔ lookL κ a ≠ lookL κ b)
  | 0, [], [], κ, _, _, _ => by simp [dL]
  | 0, x :: a, b, κ, hn, _, _ => by simp at hn
  | 0, [], y :: b, κ, hn, _, _ => by simp at hn
  | n + 1, [], [], κ, _, _, _ => by simp [dL]
  | n + 1, x :: a, [], κ, hn, ha, hb => by
    have ih := mem_dL n a [] κ (by simp at hn ⊢; omega) (up_cons ha).2 hb
    have hlx : lookL κ (x :: a) = if x.f0 = κ then (x.f1, true) else lookL κ a := by rw [lookL]
    rw [dL, List.mem_cons, ih, hlx]
    by_cases h : x.f0 = κ
    · rw [if_pos h]; simp [h, lookL]
    · rw [if_neg h]
      exact ⟨fun hh => hh.resolve_left (fun e => h e.symm), .inr⟩
  | n + 1, [], y :: b, κ, hn, ha, hb => by
    have ih := mem_dL n [] b κ (by simp at hn ⊢; omega) ha (up_cons hb).2
    have hly : lookL κ (y :: b) = if y.f0 = κ then (y.f1, true) else lookL κ b := by rw [lookL]
    rw [dL, List.mem_cons, ih, hly]
    by_cases h : y.f0 = κ
    · rw [if_pos h]; simp [h, lookL]
    · rw [if_neg h]
      exact ⟨fun hh => hh.resolve_left (fun e => h e.symm), .inr⟩
  | n + 1, x :: a, y :: b, κ, hn, ha, hb => by
    simp only [List.length_cons] at hn
    have ha' := up_cons ha
    have hb' := up_cons hb
    rw [dL]
    have hlx : lookL κ (x :: a) = if x.f0 = κ then (x.f1, true) else lookL κ a := by rw [lookL]
    have hly : lookL κ (y :: b) = if y.f0 = κ then (y.f1, true) else lookL κ b := by rw [lookL]
    by_cases h1 : x.f0 < y.f0
    · rw [if_pos h1, List.mem_cons, mem_dL n a (y :: b) κ (by simp; omega) ha'.2 hb]
      by_cases h : x.f0 = κ
      · have : lookL κ (y :: b) = (0, false) := look_absent (fun z hz => by
          rcases List.mem_cons.1 hz with rfl | hz
          · omega
          · have := hb'.1 z hz; omega)
        rw [hlx, if_pos h, this]
        simp [h]
      · rw [hlx, if_neg h]
        exact ⟨fun hh => hh.resolve_left (fun e => h e.symm), .inr⟩
    · rw [if_neg h1]
      by_cases h2 : y.f0 < x.f0
      · rw [if_pos h2, List.mem_cons, mem_dL n (x :: a) b κ (by simp; omega) ha hb'.2]
        by_cases h : y.f0 = κ
        · have : lookL κ (x :: a) = (0, false) := look_absent (fun z hz => by
            rcases List.mem_cons.1 hz with rfl | hz
            · omega
            · have := ha'.1 z hz; omega)
          rw [hly, if_pos h, this]
          simp [h]
        · rw [hly, if_neg h]
          exact ⟨fun hh => hh.resolve_left (fun e => h e.symm), .inr⟩
      · rw [if_neg h2]
        have he : x.f0 = y.f0 := by omega
        by_cases h : x.f0 = κ
        · have ta : lookL κ a = (0, false) := look_absent (fun z hz => by have := ha'.1 z hz; omega)
          have tb : lookL κ b = (0, false) := look_absent (fun z hz => by have := hb'.1 z hz; omega)
          have hy : y.f0 = κ := by omega
          rw [hlx, hly, if_pos h, if_pos hy]
          by_cases h3 : x.f1 = y.f1
          · rw [if_pos h3, mem_dL n a b κ (by omega) ha'.2 hb'.2, ta, tb, h3]
            simp
          · rw [if_neg h3]
            simp [h, h3]
        · have hy : ¬ y.f0 = κ := by omega
          rw [hlx, hly, if_neg h, if_neg hy]
          by_cases h3 : x.f1 = y.f1
          · rw [if_pos h3, mem_dL n a b κ (by omega) ha'.2 hb'.2]
          · rw [if_neg h3, List.mem_cons, mem_dL n a b κ (by omega) ha'.2 hb'.2]
            exact ⟨fun hh => hh.resolve_left (fun e => h e.symm), .inr⟩
theorem dL_above {n : Nat} {a b : List S51} {c : Int} (hn : a.length + b.length ≤ n) (ua : Up a) (ub : Up b) (ha : ∀ z ∈ a, c < z.f0) (hb : ∀ z ∈ b, c < z.f0) : ∀ κ ∈ dL n a b, c < κ := by
  intro κ hk
  have h := (mem_dL n a b κ hn ua ub).1 hk
  by_cases hc : c < κ
  · exact hc
  · exact absurd ((look_absent (fun z hz => by have := ha z hz; omega)).trans (look_absent (l := b) (fun z hz => by have := hb z hz; omega)).symm) h
theorem dL_inc : ∀ (n : Nat) (a b : List S51), a.length + b.length ≤ n → Up a → Up b → (dL n a b).Pairwise (· < ·)
  | 0, a, b, _, _, _ => by simp [dL]
  | n + 1, [], [], _, _, _ => by simp [dL]
  | n + 1, x :: a, [], hn, ha, hb => by
    have hn' : a.length + ([] : List S51).length ≤ n := by simp at hn ⊢; omega
    rw [dL]
    exact List.pairwise_cons.2 ⟨dL_above hn' (up_cons ha).2 hb (up_cons ha).1 (fun z hz => by simp at hz), dL_inc n a [] hn' (up_cons ha).2 hb⟩
  | n + 1, [], y :: b, hn, ha, hb => by
    have hn' : ([] : List S51).length + b.length ≤ n := by simp at hn ⊢; omega
    rw [dL]
    exact List.pairwise_cons.2 ⟨dL_above hn' ha (up_cons hb).2 (fun z hz => by simp at hz) (up_cons hb).1, dL_inc n [] b hn' ha (up_cons hb).2⟩
  | n + 1, x :: a, y :: b, hn, ha, hb => by
    simp only [List.length_cons] at hn
    have ha' := up_cons ha
    have hb' := up_cons hb
    rw [dL]
    by_cases h1 : x.f0 < y.f0
    · rw [if_pos h1]
      exact List.pairwise_cons.2 ⟨dL_above (by simp; omega) ha'.2 hb ha'.1 (fun z hz => by
        rcases List.mem_cons.1 hz with rfl | hz
        · exact h1
        · have := hb'.1 z hz; omega), dL_inc n a (y :: b) (by simp; omega) ha'.2 hb⟩
    · rw [if_neg h1]
      by_cases h2 : y.f0 < x.f0
      · rw [if_pos h2]
        exact List.pairwise_cons.2 ⟨dL_above (by simp; omega) ha hb'.2 (fun z hz => by
          rcases List.mem_cons.1 hz with rfl | hz
          · exact h2
          · have := ha'.1 z hz; omega) hb'.1, dL_inc n (x :: a) b (by simp; omega) ha hb'.2⟩
      · rw [if_neg h2]
        by_cases h3 : x.f1 = y.f1
        · rw [if_pos h3]; exact dL_inc n a b (by omega) ha'.2 hb'.2
        · rw [if_neg h3]
          exact List.pairwise_cons.2 ⟨dL_above (by omega) ha'.2 hb'.2 ha'.1 (fun z hz => by have := hb'.1 z hz; omega), dL_inc n a b (by omega) ha'.2 hb'.2⟩
def rD (a b : List S51) : List S51 → List Int
  | [] => []
  | z :: r => if lookL z.f0 a = lookL z.f0 b then rD a b r else z.f0 :: rD a b r
theorem mem_rD (a b : List S51) (κ : Int) : ∀ l : List S51, κ ∈ rD a b l ↔ (∃ z ∈ l, z.f0 = κ) ∧ lookL κ a ≠ lookL κ b
  | [] => by simp [rD]
  | z :: r => by
    have ih := mem_rD a b κ r
    rw [rD]
    by_cases h : lookL z.f0 a = lookL z.f0 b
    · rw [if_pos h, ih]
      constructor
      · rintro ⟨⟨w, hw, e⟩, h2⟩; exact ⟨⟨w, by simp [hw], e⟩, h2⟩
      · rintro ⟨⟨w, hw, e⟩, h2⟩
        rcases List.mem_cons.1 hw with rfl | hw
        · subst e; exact absurd h h2
        · exact ⟨⟨w, hw, e⟩, h2⟩
    · rw [if_neg h, List.mem_cons, ih]
      constructor
      · rintro (rfl | ⟨⟨w, hw, e⟩, h2⟩)
        · exact ⟨⟨z, by simp, rfl⟩, h⟩
        · exact ⟨⟨w, by simp [hw], e⟩, h2⟩
      · rintro ⟨⟨w, hw, e⟩, h2⟩
        rcases List.mem_cons.1 hw with rfl | hw
        · exact .inl e.symm
        · exact .inr ⟨⟨w, hw, e⟩, h2⟩
theorem rD_inc (a b : List S51) : ∀ l : List S51, Up l → (rD a b l).Pairwise (· < ·)
  | [], _ => by simp [rD]
  | z :: r, h => by
    have h' := up_cons h
    rw [rD]
    split
    · exact rD_inc a b r h'.2
    · refine List.pairwise_cons.2 ⟨fun κ hk => ?_, rD_inc a b r h'.2⟩
      obtain ⟨⟨w, hw, e⟩, -⟩ := (mem_rD a b κ r).1 hk
      have := h'.1 w hw
      omega
theorem rD_is (a b : List S51) (ua : Up a) (ub : Up b) : rD a b (ofL (a ++ b)) = dL (a.length + b.length) a b := by
  refine inc_ext _ _ (by rw [of_put]; exact rD_inc a b _ (putAll_up _ [] List.Pairwise.nil)) (dL_inc _ a b (Nat.le_refl _) ua ub) (fun κ => ?_)
  rw [mem_rD, mem_dL _ a b κ (Nat.le_refl _) ua ub]
  refine ⟨fun h => h.2, fun h => ⟨?_, h⟩⟩
  have hne : fk κ (a ++ b) ≠ [] := by
    intro h0
    apply h
    have hall : ∀ z ∈ a ++ b, z.f0 ≠ κ := fun z hz he => by
      have : z ∈ fk κ (a ++ b) := List.mem_filter.2 ⟨hz, by unfold ky; simpa using he⟩
      rw [h0] at this
      simp at this
    exact (look_absent (fun z hz => hall z (by simp [hz]))).trans (look_absent (l := b) (fun z hz => hall z (by simp [hz]))).symm
  have hf := putAll_fk κ (a ++ b) [] List.Pairwise.nil
  rw [← of_put] at hf
  cases hg : (fk κ (a ++ b)).getLast? with
  | none => exact absurd (List.getLast?_eq_none_iff.1 hg) hne
  | some x =>
    rw [hg] at hf
    have hm : x ∈ fk κ (ofL (a ++ b)) := by rw [hf]; simp
    have := List.mem_filter.1 hm
    exact ⟨x, this.1, by have h2 := this.2; unfold ky at h2; simpa using h2⟩
theorem rdiff_go (a b l : List S51) (ha : a.length < 100000000) (hb : b.length < 100000000) (hl : l.length < 1000000000) : ∀ d (j : Nat) (out : List Int), j + d = l.length → out.length ≤ j → Ev (fun k => larchref06_Differ.l0 k a b l out (j : Int)) (out ++ rD a b (l.drop j), 0)
  | 0, j, out, hd, ho => by
    refine Ev.succ ((Ev.const (out, 0)).congr' (by rw [List.drop_eq_nil_of_le (by omega)]; simp [rD]) fun k => ?_)
    simp only [larchref06_Differ.l0]
    rw [if_neg (by omega)]
  | d + 1, j, out, hd, ho => by
    rw [drop51 l j (by omega), rD]
    obtain ⟨z, hz⟩ : ∃ z, z = J51 l (j : Int) := ⟨_, rfl⟩
    rw [← hz]
    have h1 := look_ev a (by omega) z.f0
    have h2 := look_ev b (by omega) z.f0
    by_cases h : lookL z.f0 a = lookL z.f0 b
    · rw [if_pos h]
      have ih := rdiff_go a b l ha hb hl d (j + 1) out (by omega) (by omega)
      refine Ev.succ ((Ev.bind (g := fun k p => (larchref06_look.f k b z.f0).bind fun q => if (p.2 != q.2) = true then (if out.length < 17592186044416 then larchref06_Differ.l0 k a b l (out ++ [z.f0]) ((j + 1 : Nat) : Int) else none) else (if p.1 = q.1 then larchref06_Differ.l0 k a b l out ((j + 1 : Nat) : Int) else (if out.length < 17592186044416 then larchref06_Differ.l0 k a b l (out ++ [z.f0]) ((j + 1 : Nat) : Int) else none))) h1 (Ev.bind h2 (ih.congr fun k => ?_))).congr fun k => ?_)
      · rw [h, if_neg (by simp), if_pos rfl]
      · simp only [larchref06_Differ.l0]
        rw [if_pos (by omega), if_pos (by omega), wrap_succ (by omega), ← hz]
    · rw [if_neg h]
      have ih := rdiff_go a b l ha hb hl d (j + 1) (out ++ [z.f0]) (by omega) (by simp; omega)
      refine Ev.succ ((Ev.bind (g := fun k p => (larchref06_look.f k b z.f0).bind fun q => if (p.2 != q.2) = true then (if out.length < 17592186044416 then larchref06_Differ.l0 k a b l (out ++ [z.f0]) ((j + 1 : Nat) : Int) else none) else (if p.1 = q.1 then larchref06_Differ.l0 k a b l out ((j + 1 : Nat) : Int) else (if out.length < 17592186044416 then larchref06_Differ.l0 k a b l (out ++ [z.f0]) ((j + 1 : Nat) : Int) else none))) h1 (Ev.bind h2 (ih.congr' (by simp) fun k => ?_))).congr fun k => ?_)
      · by_cases h3 : (lookL z.f0 a).2 = (lookL z.f0 b).2
        · have h4 : (lookL z.f0 a).1 ≠ (lookL z.f0 b).1 := fun h4 => h (Prod.ext h4 h3)
          rw [if_neg (by simp [h3]), if_neg h4, if_pos (by omega)]
        · rw [if_pos (by simpa using h3), if_pos (by omega)]
      · simp only [larchref06_Differ.l0]
        rw [if_pos (by omega), if_pos (by omega), wrap_succ (by omega), ← hz]
def diffV (a b : List S51) : List Int × Int := if chkUp a = true ∧ chkUp b = true then (dL (a.length + b.length) a b, 0) else ([], 11)
theorem of_len (l : List S51) : (ofL l).length ≤ l.length := by
  unfold ofL
  have := last_le _ (srtL l) (Nat.le_refl _)
  rw [(srtL_st l).len] at this
  exact this
theorem mdiff_ev (a b : List S51) (ha : a.length < 100000000) (hb : b.length < 100000000) : Ev (fun k => model_Differ.f k a b) (diffV a b) := by
  unfold model_Differ.f diffV
  by_cases h1 : chkUp a = true
  · refine Ev.bind (mcheck_up a ha h1) ?_
    by_cases h2 : chkUp b = true
    · rw [if_pos ⟨h1, h2⟩]
      refine (Ev.bind (g := fun k t => model_Differ.j0 k a b (t != 0)) (mcheck_up b hb h2) (Ev.succ ((mdiff_go (a.length + b.length) a b [] (Nat.le_refl _) (by simp; omega)).congr' (by simp) fun k => ?_))).congr fun k => if_pos rfl
      simp [model_Differ.j0]
    · have h2' : chkUp b = false := by simpa using h2
      rw [if_neg (fun h => h2 h.2)]
      refine (Ev.bind (g := fun k t => model_Differ.j0 k a b (t != 0)) (mcheck_no b hb h2') (Ev.succ ((Ev.const _).congr fun k => ?_))).congr fun k => if_pos rfl
      simp [model_Differ.j0]
  · have h1' : chkUp a = false := by simpa using h1
    refine Ev.bind (mcheck_no a ha h1') ?_
    rw [if_neg (fun h => h1 h.1)]
    refine (Ev.succ (f := fun k => model_Differ.j0 k a b true) ((Ev.const _).congr fun k => ?_)).congr fun k => if_neg (by decide)
    simp [model_Differ.j0]
theorem rdiff_ev (a b : List S51) (ha : a.length < 40000000) (hb : b.length < 40000000) : Ev (fun k => larchref06_Differ.f k a b) (diffV a b) := by
  unfold larchref06_Differ.f diffV
  by_cases h1 : chkUp a = true
  · refine Ev.bind (rcheck_up a (by omega) h1) ?_
    by_cases h2 : chkUp b = true
    · rw [if_pos ⟨h1, h2⟩]
      have hol := of_len (a ++ b)
      rw [List.length_append] at hol
      have hg := rdiff_go a b (ofL (a ++ b)) (by omega) (by omega) (by omega) _ 0 [] (Nat.zero_add _) (Nat.le_refl _)
      rw [List.drop_zero, List.nil_append, rD_is a b ((chk_up a).1 h1) ((chk_up b).1 h2)] at hg
      refine (Ev.bind (g := fun k t => larchref06_Differ.j0 k a b (t != 0)) (rcheck_up b (by omega) h2) (Ev.succ ((Ev.bind (g := fun k t => larchref06_Differ.l0 k a b t [] 0) (rof_ev (a ++ b) (by simp; omega)) hg).congr fun k => ?_))).congr fun k => if_pos rfl
      simp [larchref06_Differ.j0, show a.length < 8796093022208 by omega]
      intro h
      omega
    · have h2' : chkUp b = false := by simpa using h2
      rw [if_neg (fun h => h2 h.2)]
      refine (Ev.bind (g := fun k t => larchref06_Differ.j0 k a b (t != 0)) (rcheck_no b (by omega) h2') (Ev.succ ((Ev.const _).congr fun k => ?_))).congr fun k => if_pos rfl
      simp [larchref06_Differ.j0]
  · have h1' : chkUp a = false := by simpa using h1
    refine Ev.bind (rcheck_no a (by omega) h1') ?_
    rw [if_neg (fun h => h1 h.1)]
    refine (Ev.succ (f := fun k => larchref06_Differ.j0 k a b true) ((Ev.const _).congr fun k => ?_)).congr fun k => if_neg (by decide)
    simp [larchref06_Differ.j0]
end Go.Proofs.Ytanlnfcjdjamaaa.P
