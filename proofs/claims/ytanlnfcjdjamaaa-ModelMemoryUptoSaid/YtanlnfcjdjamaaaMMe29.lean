/- P.modelMemory_holds, part 30 of 37: the contracts of the Go functions that the law calls, its own walk, and its plain law, for every input that the statement speaks of. -/
import Derived.Test.YtanlnfcjdjamaaaMMe25
import Derived.Test.YtanlnfcjdjamaaaMMe19
import Derived.Test.YtanlnfcjdjamaaaMMe17
import Derived.Test.YtanlnfcjdjamaaaMMe2
import Derived.Test.YtanlnfcjdjamaaaMMe26
import Derived.Test.YtanlnfcjdjamaaaMMe3
set_option linter.unusedVariables false
set_option linter.unusedSimpArgs false
/- E11 -/
namespace Go.Proofs.Ytanlnfcjdjamaaa.P
open Go.RowKit Go.Proofs.YtanlnfcjdjamaaaW.PrintWords Go.Proofs.YtanlnfcjdjamaaaW.PrintLast Go.Proofs.YtanlnfcjdjamaaaW.PrintMore
theorem copied_f (l : List S51) (h : l.length < 100000000) : larchlaw06_copied.f l = some l := by
  unfold larchlaw06_copied.f
  rw [Option.bind_some, if_pos (by simp; omega), List.nil_append]
theorem take_C {w : World} {A : Option Addr} {l : List S51} (h : Kd.C k51 w A l.length l) (n : Nat) : Kd.C k51 w A (l.take n).length (l.take n) := by
  by_cases hn : n ≤ l.length
  · exact Kd.C_take h hn
  · rw [List.take_of_length_le (by omega)]
    exact h
def boxL (A0 A1 B2 B3 A4 : Option Addr) (n0 n1 n2 n3 n4 c0 c1 d2 d3 c4 : Nat) (o0 o1 o2 o3 : Int) (b : Bool) (q1 q2 kk hh : Int) : Array Value := #[.slice A0 n0 c0, .slice A1 n1 c1, .slice B2 n2 d2, .slice B3 n3 d3, .int .i64 o0, .int .i64 o1, .int .i64 o2, .int .i64 o3, .bool b, .int .i64 q1, .int .i64 q2, .slice A4 n4 c4, .int .i64 kk, .int .i64 hh]
section
variable {W : World} {n : Nat} {A0 A1 B2 B3 A4 : Option Addr} {n0 n1 n2 n3 n4 c0 c1 d2 d3 c4 : Nat} {o0 o1 o2 o3 : Int} {b : Bool} {q1 q2 kk hh : Int}
theorem box4 (h : W.heap[n]? = some (.cells (boxL A0 A1 B2 B3 A4 n0 n1 n2 n3 n4 c0 c1 d2 d3 c4 o0 o1 o2 o3 b q1 q2 kk hh) 29 (0, 0))) :
    W.cell? ⟨n, 0, none⟩ = some (.slice A0 n0 c0) ∧ W.cell? ⟨n, 4, none⟩ = some (.int .i64 o0) ∧ W.cell? ⟨n, 5, none⟩ = some (.int .i64 o1) ∧ W.cell? ⟨n, 6, none⟩ = some (.int .i64 o2) ∧ W.cell? ⟨n, 7, none⟩ = some (.int .i64 o3) :=
  ⟨(blk_cell h 0).trans rfl, (blk_cell h 4).trans rfl, (blk_cell h 5).trans rfl, (blk_cell h 6).trans rfl, (blk_cell h 7).trans rfl⟩
theorem box2 (h : W.heap[n]? = some (.cells (boxL A0 A1 B2 B3 A4 n0 n1 n2 n3 n4 c0 c1 d2 d3 c4 o0 o1 o2 o3 b q1 q2 kk hh) 29 (0, 0))) :
    W.cell? ⟨n, 0, none⟩ = some (.slice A0 n0 c0) ∧ W.cell? ⟨n, 2, none⟩ = some (.slice B2 n2 d2) :=
  ⟨(blk_cell h 0).trans rfl, (blk_cell h 2).trans rfl⟩
end
theorem ans4 {W : World} {g : Nat} {b : Bool} {x y : Int} {v : Value} (h : W.heap[g]? = some (.cells (rC b x y v) 27 (0, 0))) :
    W.cell? ⟨g, 0, none⟩ = some (.bool b) ∧ W.cell? ⟨g, 1, none⟩ = some (.int .i64 x) ∧ W.cell? ⟨g, 2, none⟩ = some (.int .i64 y) ∧ W.cell? ⟨g, 3, none⟩ = some v :=
  ⟨(blk_cell h 0).trans rfl, (blk_cell h 1).trans rfl, (blk_cell h 2).trans rfl, (blk_cell h 3).trans rfl⟩
structure Car (w W : World) (cs : Array Value) (B2 : Option Addr) (d2 : Nat) (ops : List S25) (g : Nat) (q0 : Bool) (q1 q2 : Int) (A : Option Addr) (c : Nat) (ps : List S51) : Prop where
  box : W.heap[w.heap.size]? = some (.cells cs 29 (0, 0))
  bel : Below w.heap.size w W
  ops : Kd.R k25 25 W w.heap.size (fun _ => True) (.slice B2 ops.length d2) ops
  ret : W.heap[g]? = some (.cells (rC q0 q1 q2 (.slice A ps.length c)) 27 (0, 0))
  gp : Kd.R k51 51 W w.heap.size (fun _ => True) (.slice A ps.length c) ps
namespace Car
variable {w W W' : World} {cs : Array Value} {B2 A A' : Option Addr} {d2 c c' g g' : Nat} {ops : List S25} {q0 q0' b0 : Bool} {q1 q2 q1' q2' x0 y0 : Int} {v0 : Value} {ps ps' : List S51}
theorem below (h : Car w W cs B2 d2 ops g q0 q1 q2 A c ps) (hb : Below W.heap.size W W') : Car w W' cs B2 d2 ops g q0 q1 q2 A c ps :=
  ⟨blk_below h.box hb, below_step h.bel hb, Kd.R_below h.ops hb, blk_below h.ret hb, Kd.R_below h.gp hb⟩
theorem drew (h : Car w W cs B2 d2 ops g q0 q1 q2 A c ps) : Car w W.drew cs B2 d2 ops g q0 q1 q2 A c ps := h.below (below_drew1 (Below.refl _ _))
theorem alloc (h : Car w W cs B2 d2 ops g q0 q1 q2 A c ps) (o : Obj) : Car w (W.alloc o) cs B2 d2 ops g q0 q1 q2 A c ps := h.below (below_alloc (Below.refl _ _) o)
theorem fresh (hx : W.heap[w.heap.size]? = some (.cells cs 29 (0, 0))) (hb : Below w.heap.size w W) (ho : Kd.R k25 25 W w.heap.size (fun _ => True) (.slice B2 ops.length d2) ops) (hR : Kd.R k51 51 W w.heap.size (fun _ => True) (.slice A ps.length c) ps) (q0 : Bool) (q1 q2 : Int) :
    Car w (W.alloc (.cells (rC q0 q1 q2 (.slice A ps.length c)) 27)) cs B2 d2 ops W.heap.size q0 q1 q2 A c ps :=
  ⟨blk_alloc hx _, below_alloc hb _, Kd.R_alloc ho _, blk_new _ _, Kd.R_alloc hR _⟩
theorem cells {A0 A1 B3 A4 : Option Addr} {n0 n1 n2 n3 n4 c0 c1 e2 d3 c4 : Nat} {o0 o1 o2 o3 : Int} {b : Bool} {p1 p2 kk hh : Int}
    (h : Car w W (boxL A0 A1 B2 B3 A4 n0 n1 n2 n3 n4 c0 c1 e2 d3 c4 o0 o1 o2 o3 b p1 p2 kk hh) B2 d2 ops g q0 q1 q2 A c ps) :
    W.cell? ⟨w.heap.size, 0, none⟩ = some (.slice A0 n0 c0) ∧ W.cell? ⟨w.heap.size, 4, none⟩ = some (.int .i64 o0) ∧ W.cell? ⟨w.heap.size, 5, none⟩ = some (.int .i64 o1) ∧ W.cell? ⟨w.heap.size, 6, none⟩ = some (.int .i64 o2) ∧ W.cell? ⟨w.heap.size, 7, none⟩ = some (.int .i64 o3) ∧
      W.cell? ⟨g, 0, none⟩ = some (.bool q0) ∧ W.cell? ⟨g, 1, none⟩ = some (.int .i64 q1) ∧ W.cell? ⟨g, 2, none⟩ = some (.int .i64 q2) ∧ W.cell? ⟨g, 3, none⟩ = some (.slice A ps.length c) := by
  obtain ⟨a, b, c, d, e⟩ := box4 h.box
  exact ⟨a, b, c, d, e, ans4 h.ret⟩
end Car
structure Does (k : Nat) (m : List S51) (ops : List S25) (o0 o1 o2 o3 : Int) (b : Bool) (q1 q2 : Int) (ps : List S51) (dl : List S51) (g1 : Bool) (g2 g3 : Int) (gp : List S51) (e1 : Int) (ru : List S51) (rs : List S27) (e2 : Int) (t1 : Bool) (e3 : Int) (t2 : Bool) (e4 : Int) : Prop where
  fixed : larchlaw06_fixed.f k = some true
  small : m.length < 100000000
  psmall : ps.length < 100000000
  do_ : model_Do.f m o0 o1 o2 o3 = some (dl, g1, g2, g3, gp, e1)
  rdo : larchref06_Do.f k m o0 o1 o2 o3 = some (dl, g1, g2, g3, gp, e1)
  same : larchref06_Same.f k dl dl = some true
  sret : larchref06_SameRet.f k g1 g2 g3 gp g1 g2 g3 gp = some true
  run : model_Run.f m ops = some (ru, rs, e2)
  rrun : larchref06_Run.f k m ops = some (ru, rs, e2)
  same2 : larchref06_Same.f k ru ru = some true
  srets : larchref06_SameRets.f k rs rs = some true
  fit : model_Fits.f k m o0 o1 o2 o3 b q1 q2 ps = some (t1, e3)
  rfit : larchref06_Fits.f k m o0 o1 o2 o3 b q1 q2 ps = some (t1, e3)
  fit2 : model_Fits.f k m o0 o1 o2 o3 g1 g2 g3 gp = some (t2, e4)
  rfit2 : larchref06_Fits.f k m o0 o1 o2 o3 g1 g2 g3 gp = some (t2, e4)
end Go.Proofs.Ytanlnfcjdjamaaa.P
