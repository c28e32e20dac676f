/- P.modelLaws_holds, part 10 of 35: the contracts of the Go functions that the law calls, its own walk, and its plain law, for every input that the statement speaks of. -/
import Derived.Test.YtanlnfcjdjamaaaMLa8
import Derived.Test.YtanlnfcjdjamaaaMLa2
set_option linter.unusedVariables false
set_option linter.unusedSimpArgs false
/- L3 -/
namespace Go.Proofs.Ytanlnfcjdjamaaa.P
open Go.RowKit Go.Proofs.YtanlnfcjdjamaaaW.PrintWords Go.Proofs.YtanlnfcjdjamaaaW.PrintLast Go.Proofs.YtanlnfcjdjamaaaW.PrintMore
def Ev {α : Type} (f : Nat → Option α) (v : α) : Prop := ∃ K, ∀ k, K ≤ k → f k = some v
namespace Ev
variable {α β : Type}
theorem const (v : α) : Ev (fun _ => some v) v := ⟨0, fun _ _ => rfl⟩
theorem succ {f : Nat → Option α} {v : α} (h : Ev (fun k => f (k + 1)) v) : Ev f v := by
  obtain ⟨K, h⟩ := h
  refine ⟨K + 1, fun k hk => ?_⟩
  obtain ⟨j, rfl⟩ : ∃ j, k = j + 1 := ⟨k - 1, by omega⟩
  exact h j (by omega)
theorem bind {f : Nat → Option α} {g : Nat → α → Option β} {x : α} {v : β} (h1 : Ev f x) (h2 : Ev (fun k => g k x) v) : Ev (fun k => (f k).bind (g k)) v := by
  obtain ⟨K1, h1⟩ := h1
  obtain ⟨K2, h2⟩ := h2
  refine ⟨max K1 K2, fun k hk => ?_⟩
  show (f k).bind (g k) = some v
  rw [h1 k (by omega)]
  exact h2 k (by omega)
theorem congr {f g : Nat → Option α} {v : α} (h : Ev g v) (e : ∀ k, f k = g k) : Ev f v := by
  obtain ⟨K, h⟩ := h
  exact ⟨K, fun k hk => (e k).trans (h k hk)⟩
theorem congr' {f g : Nat → Option α} {v w : α} (h : Ev g v) (ev : w = v) (e : ∀ k, f k = g k) : Ev f w := by
  subst ev
  exact h.congr e
theorem of_mono {f : Nat → Option α} {v : α} (K : Nat) (h : f K = some v) (m : ∀ k, LeO (f k) (f (k + 1))) : Ev f v := by
  refine ⟨K, fun k hk => ?_⟩
  obtain ⟨d, rfl⟩ : ∃ d, k = K + d := ⟨k - K, by omega⟩
  induction d with
  | zero => exact h
  | succ d ih => exact m _ _ (ih (by omega))
theorem uniq {f : Nat → Option α} {v v' : α} (h : Ev f v) (h' : Ev f v') : v = v' := by
  obtain ⟨K, h⟩ := h
  obtain ⟨K', h'⟩ := h'
  have a := h (max K K') (by omega)
  have b := h' (max K K') (by omega)
  rw [a] at b
  exact Option.some.inj b
end Ev
theorem wrap_succ {n : Nat} (h : n ≤ 1000000000) : wrap64 ((n : Int) + 1) = ((n + 1 : Nat) : Int) := by unfold wrap64; omega
theorem drop51 (l : List S51) (j : Nat) (h : j < l.length) : l.drop j = J51 l (j : Int) :: l.drop (j + 1) := by rw [List.drop_eq_getElem_cons h, rd51_get l j h]
end Go.Proofs.Ytanlnfcjdjamaaa.P
