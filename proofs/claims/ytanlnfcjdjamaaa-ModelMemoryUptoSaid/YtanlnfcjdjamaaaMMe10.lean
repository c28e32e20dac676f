/- P.modelMemory_holds, part 11 of 37: the contracts of the Go functions that the law calls, its own walk, and its plain law, for every input that the statement speaks of. -/
import Derived.Test.YtanlnfcjdjamaaaMMe9
import Derived.Test.YtanlnfcjdjamaaaMMe2
set_option linter.unusedVariables false
set_option linter.unusedSimpArgs false
/- L3 -/
namespace Go.Proofs.Ytanlnfcjdjamaaa.P
open Go.RowKit Go.Proofs.YtanlnfcjdjamaaaW.PrintWords Go.Proofs.YtanlnfcjdjamaaaW.PrintLast Go.Proofs.YtanlnfcjdjamaaaW.PrintMore
def Ev {α : Type} (f : Nat → Option α) (v : α) : Prop := ∃ K, ∀ k, K ≤ k → f k = some v
namespace Ev
variable {α β : Type}
theorem const (v : α) : Ev (fun _ => some v) v := ⟨0, fun _ _ => rfl⟩
theorem succ {f : Nat → Option α} {v : α} (h : Ev (fun k => f (k + 1)) v) : Ev f v := by
  obtain ⟨K, h⟩ := h
  refine ⟨K + 1, fun k hk => ?_⟩
  obtain ⟨j, rfl⟩ : ∃ j, k = j + 1 := ⟨k - 1, by omega⟩
  exact h j (by omega)
theorem bind {f : Nat → Option α} {g : Nat → α → Option β} {x : α} {v : β} (h1 : Ev f x) (h2 : Ev (fun k => g k x) v) : Ev (fun k => (f k).bind (g k)) v := by
  obtain ⟨K1, h1⟩ := h1
  obtain ⟨K2, h2⟩ := h2
  refine ⟨max K1 K2, fun k hk => ?_⟩
  show (f k).bind (g k) = some v
  rw [h1 k (by omega)]
  exact h2 k (by omega)
theorem congr {f g : Nat → Option α} {v : α} (h : Ev g v) (e : ∀ k, f k = g k) : Ev f v := by
  obtain ⟨K, h⟩ := h
  exact ⟨K, fun k hk => (e k).trans (h k hk)⟩
theorem congr' {f g : Nat → Option α} {v w : α} (h : Ev g v) (ev : w = v) (e : ∀ k, f k = g k) : Ev f w := by
  subst ev
  exact h.congr e
theorem of_mono {f : Nat → Option α} {v : α} (K : Nat) (h : f K = some v) (m : ∀ k, LeO (f k) (f (k + 1))) : Ev f v := by
  refine ⟨K, fun k hk => ?_⟩
  obtain ⟨d, rfl⟩ : ∃ d, k = K + d := ⟨k - K, by omega⟩
  induction d with
  | zero => exact h
  | succ d ih => exact m _ _ (ih (by omega))
theorem uniq {f : Nat → Option α} {v v' : α} (h : Ev f v) (h' : Ev f v') : v = v' := by
  obtain ⟨K, h⟩ := h
  obtain ⟨K', h'⟩ := h'
  have a := h (max K K') (by omega)
  have b := h' (max K K') (by omega)
  rw [a] at b
  exact Option.some.inj b
end Ev
theorem wrap_succ {n : Nat} (h : n ≤ 1000000000) : wrap64 ((n : Int) + 1) = ((n + 1 : Nat) : Int) := by unfold wrap64; omega
theorem drop51 (l : List S51) (j : Nat) (h : j < l.length) : l.drop j = J51 l (j : Int) :: l.drop (j + 1) := by rw [List.drop_eq_getElem_cons h, rd51_get l j h]
theorem look_go (l : List S51) (hl : l.length < 1000000000) (key : Int) : ∀ d (j : Nat), j + d = l.length → Ev (fun k => larchref06_look.l0 k l key (j : Int)) (lookL key (l.drop j))
  | 0, j, hd => by
    refine Ev.succ ((Ev.const (0, false)).congr' (by rw [List.drop_eq_nil_of_le (by omega)]; rfl) fun k => ?_)
    simp only [larchref06_look.l0]
    rw [if_neg (by omega)]
  | d + 1, j, hd => by
    rw [drop51 l j (by omega), lookL]
    by_cases h : (J51 l (j : Int)).f0 = key
    · rw [if_pos h]
      refine Ev.succ ((Ev.const _).congr fun k => ?_)
      simp only [larchref06_look.l0]
      rw [if_pos (by omega), if_pos (by omega), if_pos h]
    · rw [if_neg h]
      refine Ev.succ ((look_go l hl key d (j + 1) (by omega)).congr fun k => ?_)
      simp only [larchref06_look.l0]
      rw [if_pos (by omega), if_pos (by omega), if_neg h, wrap_succ (by omega)]
theorem look_ev (l : List S51) (hl : l.length < 1000000000) (key : Int) : Ev (fun k => larchref06_look.f k l key) (lookL key l) := by
  have := look_go l hl key l.length 0 (by omega)
  exact this
theorem inside_go (l : List S51) (hl : l.length < 1000000000) (lo hi : Int) : ∀ d (j : Nat) (out : List S51), j + d = l.length → out.length ≤ j → Ev (fun k => larchref06_Inside.l0 k l lo hi out (j : Int)) (out ++ insideL (l.drop j) lo hi)
  | 0, j, out, hd, ho => by
    refine Ev.succ ((Ev.const out).congr' (by rw [List.drop_eq_nil_of_le (by omega)]; simp [insideL]) fun k => ?_)
    simp only [larchref06_Inside.l0]
    rw [if_neg (by omega)]
  | d + 1, j, out, hd, ho => by
    rw [drop51 l j (by omega)]
    have e : insideL (J51 l (j : Int) :: l.drop (j + 1)) lo hi = if lo ≤ (J51 l (j : Int)).f0 ∧ (J51 l (j : Int)).f0 ≤ hi then J51 l (j : Int) :: insideL (l.drop (j + 1)) lo hi else insideL (l.drop (j + 1)) lo hi := by
      unfold insideL
      rw [List.filter_cons]
      by_cases h : lo ≤ (J51 l (j : Int)).f0 ∧ (J51 l (j : Int)).f0 ≤ hi
      · rw [if_pos h, if_pos (decide_eq_true h)]
      · rw [if_neg h, if_neg (by simpa using h)]
    rw [e]
    by_cases h1 : (J51 l (j : Int)).f0 ≥ lo
    · by_cases h2 : (J51 l (j : Int)).f0 ≤ hi
      · rw [if_pos ⟨h1, h2⟩]
        refine Ev.succ ((inside_go l hl lo hi d (j + 1) (out ++ [J51 l (j : Int)]) (by omega) (by simp; omega)).congr' (by simp) fun k => ?_)
        simp only [larchref06_Inside.l0]
        rw [if_pos (by omega), if_pos (by omega), if_pos h1, if_pos h2, if_pos (by omega), wrap_succ (by omega)]
      · rw [if_neg (fun h => h2 h.2)]
        refine Ev.succ ((inside_go l hl lo hi d (j + 1) out (by omega) (by omega)).congr fun k => ?_)
        simp only [larchref06_Inside.l0]
        rw [if_pos (by omega), if_pos (by omega), if_pos h1, if_neg h2, wrap_succ (by omega)]
    · rw [if_neg (fun h => h1 h.1)]
      refine Ev.succ ((inside_go l hl lo hi d (j + 1) out (by omega) (by omega)).congr fun k => ?_)
      simp only [larchref06_Inside.l0]
      rw [if_pos (by omega), if_pos (by omega), if_neg h1, wrap_succ (by omega)]
theorem inside_ev (l : List S51) (hl : l.length < 1000000000) (lo hi : Int) : Ev (fun k => larchref06_Inside.f k l lo hi) (insideL l lo hi) := by
  have := inside_go l hl lo hi l.length 0 [] (by omega) (by simp)
  exact this
theorem with_go (l : List S51) (hl : l.length < 1000000000) (key val : Int) : ∀ d (j : Nat) (out : List S51) (done : Bool), j + d = l.length → out.length ≤ 2 * j → Ev (fun k => larchref06_with.l0 k l key val out done (j : Int)) (out ++ withL key val done (l.drop j))
  | 0, j, out, done, hd, ho => by
    rw [List.drop_eq_nil_of_le (by omega), withL]
    refine Ev.succ ((Ev.const _).congr fun k => ?_)
    simp only [larchref06_with.l0]
    rw [if_neg (by omega)]
    cases done with
    | true => rw [if_pos rfl, if_neg (by decide), List.append_nil]
    | false => rw [if_neg (by decide), if_pos (by omega), if_pos rfl]
  | d + 1, j, out, done, hd, ho => by
    obtain ⟨x, hx⟩ : ∃ x, x = J51 l (j : Int) := ⟨_, rfl⟩
    rw [drop51 l j (by omega), withL, ← hx]
    have ins : ∀ (dn : Bool), dn = false → key ≤ x.f0 → Ev (fun k => larchref06_with.j1 (k + 1) l key val out dn (j : Int) true) (out ++ ([⟨key, val⟩] ++ (if x.f0 = key then [] else [x]) ++ withL key val true (l.drop (j + 1)))) := by
      intro dn _ hk
      by_cases h : x.f0 = key
      · rw [if_pos h]
        refine (with_go l hl key val d (j + 1) (out ++ [⟨key, val⟩]) true (by omega) (by simp; omega)).congr' (by simp) fun k => ?_
        simp only [larchref06_with.j1]
        rw [if_pos trivial, if_pos (by omega), Option.bind_some, if_pos (by omega), if_pos (by omega), ← hx, if_pos h, wrap_succ (by omega)]
      · rw [if_neg h]
        refine (with_go l hl key val d (j + 1) (out ++ [⟨key, val⟩] ++ [x]) true (by omega) (by simp; omega)).congr' (by simp) fun k => ?_
        simp only [larchref06_with.j1]
        rw [if_pos trivial, if_pos (by omega), Option.bind_some, if_pos (by omega), if_pos (by omega), ← hx, if_neg h, if_pos (by simp; omega), wrap_succ (by omega)]
    have no : ∀ (dn : Bool), Ev (fun k => larchref06_with.j1 (k + 1) l key val out dn (j : Int) false) (out ++ ((if x.f0 = key then [] else [x]) ++ withL key val dn (l.drop (j + 1)))) := by
      intro dn
      by_cases h : x.f0 = key
      · rw [if_pos h]
        refine (with_go l hl key val d (j + 1) out dn (by omega) (by omega)).congr' (by simp) fun k => ?_
        simp only [larchref06_with.j1]
        rw [if_neg (by decide), if_pos (by omega), if_pos (by omega), ← hx, if_pos h, wrap_succ (by omega)]
      · rw [if_neg h]
        refine (with_go l hl key val d (j + 1) (out ++ [x]) dn (by omega) (by simp; omega)).congr' (by simp) fun k => ?_
        simp only [larchref06_with.j1]
        rw [if_neg (by decide), if_pos (by omega), if_pos (by omega), ← hx, if_neg h, if_pos (by omega), wrap_succ (by omega)]
    cases done with
    | true =>
      refine Ev.succ (Ev.succ ((no true).congr' (by simp) fun k => ?_))
      simp only [larchref06_with.l0]
      rw [if_pos (by omega), if_pos trivial]
    | false =>
      by_cases hk : key ≤ x.f0
      · refine Ev.succ (Ev.succ ((ins false rfl hk).congr' (by simp [hk]) fun k => ?_))
        simp only [larchref06_with.l0]
        rw [if_pos (by omega), if_neg (by decide), if_pos (by omega), ← hx, decide_eq_true (by omega)]
      · refine Ev.succ (Ev.succ ((no false).congr' (by simp [hk]) fun k => ?_))
        simp only [larchref06_with.l0]
        rw [if_pos (by omega), if_neg (by decide), if_pos (by omega), ← hx, decide_eq_false (by omega)]
theorem with_ev (l : List S51) (hl : l.length < 1000000000) (key val : Int) (done : Bool) : Ev (fun k => larchref06_with.f k l key val done) (withL key val done l) := by
  have := with_go l hl key val l.length 0 [] done (by omega) (by simp)
  exact this
end Go.Proofs.Ytanlnfcjdjamaaa.P
