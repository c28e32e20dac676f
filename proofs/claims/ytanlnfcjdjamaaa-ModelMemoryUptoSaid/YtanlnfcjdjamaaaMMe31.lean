/- P.modelMemory_holds, part 32 of 37: the contracts of the Go functions that the law calls, its own walk, and its plain law, for every input that the statement speaks of. -/
import Derived.Test.YtanlnfcjdjamaaaMMe29
import Derived.Test.YtanlnfcjdjamaaaMMe2
set_option linter.unusedVariables false
set_option linter.unusedSimpArgs false
/- E19 -/
namespace Go.Proofs.Ytanlnfcjdjamaaa.P
open Go.RowKit Go.Proofs.YtanlnfcjdjamaaaW.PrintWords Go.Proofs.YtanlnfcjdjamaaaW.PrintLast Go.Proofs.YtanlnfcjdjamaaaW.PrintMore
theorem wp_named {P : Program} {c : Code} {Q : Exit → Act → World → Prop} {a : Act} {w : World} (h : ∀ A0, A0 = a → c.wp P Q A0 w) : c.wp P Q a w := h a rfl
def puts (a : Act) (l : List (Nat × Value)) : Act := l.foldl (fun a p => a.put (some p.1) p.2) a
structure Lw where
  A : Option Addr
  c : Nat
  l : List S51
structure Ans where
  g : Nat
  q0 : Bool
  q1 : Int
  q2 : Int
  A : Option Addr
  c : Nat
  ps : List S51
structure Cy (w W : World) (cs : Array Value) (rows : List Lw) (bxs : List Ans) : Prop where
  box : W.heap[w.heap.size]? = some (.cells cs 29 (0, 0))
  bel : Below w.heap.size w W
  rows : ∀ r ∈ rows, Kd.R k51 51 W w.heap.size (fun _ => True) (.slice r.A r.l.length r.c) r.l
  bxs : ∀ q ∈ bxs, W.heap[q.g]? = some (.cells (rC q.q0 q.q1 q.q2 (.slice q.A q.ps.length q.c)) 27 (0, 0)) ∧ Kd.R k51 51 W w.heap.size (fun _ => True) (.slice q.A q.ps.length q.c) q.ps
namespace Cy
variable {w W W' : World} {cs : Array Value} {rows : List Lw} {bxs : List Ans}
theorem below (h : Cy w W cs rows bxs) (hb : Below W.heap.size W W') : Cy w W' cs rows bxs :=
  ⟨blk_below h.box hb, below_step h.bel hb, fun r hr => Kd.R_below (h.rows r hr) hb, fun q hq => ⟨blk_below (h.bxs q hq).1 hb, Kd.R_below (h.bxs q hq).2 hb⟩⟩
theorem drew (h : Cy w W cs rows bxs) : Cy w W.drew cs rows bxs := h.below (below_drew1 (Below.refl _ _))
theorem alloc (h : Cy w W cs rows bxs) (o : Obj) : Cy w (W.alloc o) cs rows bxs := h.below (below_alloc (Below.refl _ _) o)
theorem lt (h : Cy w W cs rows bxs) : ∀ q ∈ bxs, q.g < W.heap.size := fun q hq => blk_lt (h.bxs q hq).1
theorem row (h : Cy w W cs rows bxs) {A : Option Addr} {c : Nat} {l : List S51} (hR : Kd.R k51 51 W w.heap.size (fun _ => True) (.slice A l.length c) l) : Cy w W cs (⟨A, c, l⟩ :: rows) bxs :=
  ⟨h.box, h.bel, fun r hr => by
    rcases List.mem_cons.1 hr with rfl | hr
    · exact hR
    · exact h.rows r hr, h.bxs⟩
theorem less {rows' : List Lw} (h : Cy w W cs rows bxs) (hs : ∀ r ∈ rows', r ∈ rows) : Cy w W cs rows' bxs := ⟨h.box, h.bel, fun r hr => h.rows r (hs r hr), h.bxs⟩
theorem fresh (h : Cy w W cs rows bxs) {q0 : Bool} {q1 q2 : Int} {A : Option Addr} {c : Nat} {ps : List S51} (hR : Kd.R k51 51 W w.heap.size (fun _ => True) (.slice A ps.length c) ps) :
    Cy w (W.alloc (.cells (rC q0 q1 q2 (.slice A ps.length c)) 27)) cs rows (⟨W.heap.size, q0, q1, q2, A, c, ps⟩ :: bxs) := by
  have h2 := h.alloc (.cells (rC q0 q1 q2 (.slice A ps.length c)) 27)
  exact ⟨h2.box, h2.bel, h2.rows, fun q hq => by
    rcases List.mem_cons.1 hq with rfl | hq
    · exact ⟨blk_new _ _, Kd.R_alloc hR _⟩
    · exact h2.bxs q hq⟩
theorem rowC (h : Cy w W cs rows bxs) {A : Option Addr} {c : Nat} {l : List S51} (hm : (⟨A, c, l⟩ : Lw) ∈ rows) : Kd.C k51 W A l.length l ∧ l.length ≤ c := ⟨(Kd.R_reads' (h.rows _ hm)).2.2, (Kd.R_reads' (h.rows _ hm)).2.1⟩
theorem ans (h : Cy w W cs rows bxs) {g c : Nat} {q0 : Bool} {q1 q2 : Int} {A : Option Addr} {ps : List S51} (hm : (⟨g, q0, q1, q2, A, c, ps⟩ : Ans) ∈ bxs) :
    W.cell? ⟨g, 0, none⟩ = some (.bool q0) ∧ W.cell? ⟨g, 1, none⟩ = some (.int .i64 q1) ∧ W.cell? ⟨g, 2, none⟩ = some (.int .i64 q2) ∧ W.cell? ⟨g, 3, none⟩ = some (.slice A ps.length c) := ans4 (h.bxs _ hm).1
theorem ansC (h : Cy w W cs rows bxs) {g c : Nat} {q0 : Bool} {q1 q2 : Int} {A : Option Addr} {ps : List S51} (hm : (⟨g, q0, q1, q2, A, c, ps⟩ : Ans) ∈ bxs) : Kd.C k51 W A ps.length ps ∧ ps.length ≤ c := ⟨(Kd.R_reads' (h.bxs _ hm).2).2.2, (Kd.R_reads' (h.bxs _ hm).2).2.1⟩
end Cy
end Go.Proofs.Ytanlnfcjdjamaaa.P
