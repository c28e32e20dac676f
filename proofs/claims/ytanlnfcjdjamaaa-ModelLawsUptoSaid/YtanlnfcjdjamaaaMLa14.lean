/- P.modelLaws_holds, part 15 of 35: the contracts of the Go functions that the law calls, its own walk, and its plain law, for every input that the statement speaks of. -/
import Derived.Test.YtanlnfcjdjamaaaMLa13
import Derived.Test.YtanlnfcjdjamaaaMLa9
import Derived.RegionTactic
import Derived.ChangeAlike
import Derived.Outline
import Derived.Test.YtanlnfcjdjamaaaMLa2
set_option linter.unusedVariables false
set_option linter.unusedSimpArgs false
/- E8A -/
namespace Go.Proofs.Ytanlnfcjdjamaaa.P
open Go.RowKit Go.Proofs.YtanlnfcjdjamaaaW.PrintWords Go.Proofs.YtanlnfcjdjamaaaW.PrintLast Go.Proofs.YtanlnfcjdjamaaaW.PrintMore
structure StI (w W : World) (o : S25) (n8 : Nat) (r : S27) (vP : Value) (ps : List S51) : Prop where
  D : DoW w W o (rC false 0 0 (.slice none 0 0))
  b8 : W.heap[n8]? = some (.cells (rC r.f0 r.f1 r.f2 vP) 27 (0, 0))
  HB : Below w.heap.size w W
  n : w.heap.size + 2 ≤ n8
  P : Kd.R k51 51 W w.heap.size (fun _ => True) vP ps
theorem StI.below {w W W2 : World} {o : S25} {n8 : Nat} {r : S27} {vP : Value} {ps : List S51} (h : StI w W o n8 r vP ps) (hb : Below W.heap.size W W2) : StI w W2 o n8 r vP ps :=
  ⟨h.D.next (grown_below hb none) (by simp) (by simp), blk_below h.b8 hb, below_step h.HB hb, h.n, Kd.R_below h.P hb⟩
theorem StI.lt {w W : World} {o : S25} {n8 : Nat} {r : S27} {vP : Value} {ps : List S51} (h : StI w W o n8 r vP ps) : n8 < W.heap.size := (Array.getElem?_eq_some_iff.1 h.b8).1
theorem StI.grown {w W W2 : World} {o : S25} {n8 : Nat} {r : S27} {vP : Value} {ps : List S51} {row : Option Nat} (h : StI w W o n8 r vP ps) (hg : W.grownBy W2 row) (hrow : ∀ k, row = some k → n8 < k) (hP : Kd.R k51 51 W2 w.heap.size (fun _ => True) vP ps) : StI w W2 o n8 r vP ps :=
  ⟨h.D.next hg (fun e => by have := hrow _ e.symm; have := h.n; omega) (fun e => by have := hrow _ e.symm; have := h.n; omega), (hg.block _ h.lt (fun e => by have := hrow _ e.symm; omega)).trans h.b8, h.HB.grown hg h.HB.size (fun k hk => by have := hrow k hk; have := h.n; omega), h.n, hP⟩
theorem below_ret0 {w W : World} {g : Nat} {b : Bool} {x y : Int} {v : Value} (h : Below w.heap.size w W) (hg : w.heap.size ≤ g) : Below w.heap.size w (retW W g b x y v) := by
  have h2 := below_ret (b := b) (x := x) (y := y) (v := v) h hg
  exact ⟨h2.os, h2.tape, h2.output, h2.size, h2.block⟩
end Go.Proofs.Ytanlnfcjdjamaaa.P
