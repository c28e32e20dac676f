/- P.modelMemory_holds, part 31 of 37: the contracts of the Go functions that the law calls, its own walk, and its plain law, for every input that the statement speaks of. -/
import Derived.Test.YtanlnfcjdjamaaaMMe29
import Derived.Test.YtanlnfcjdjamaaaMMe25
import Derived.Test.YtanlnfcjdjamaaaMMe24
import Derived.Test.YtanlnfcjdjamaaaMMe2
import Derived.Test.YtanlnfcjdjamaaaMMe26
import Derived.Test.YtanlnfcjdjamaaaMMe3
import Derived.Test.YtanlnfcjdjamaaaMMe8
set_option linter.unusedVariables false
set_option linter.unusedSimpArgs false
/- E18 -/
namespace Go.Proofs.Ytanlnfcjdjamaaa.P
open Go.RowKit Go.Proofs.YtanlnfcjdjamaaaW.PrintWords Go.Proofs.YtanlnfcjdjamaaaW.PrintLast Go.Proofs.YtanlnfcjdjamaaaW.PrintMore
theorem eqA25 (d : Nat) (w : World) (x0 y0 : Int) (x1 y1 : Int) (x2 y2 : Int) (x3 y3 : Int) :
    (Op.equalIn (d + 2) 25 (.agg #[.int .i64 x0, .int .i64 x1, .int .i64 x2, .int .i64 x3]) (.agg #[.int .i64 y0, .int .i64 y1, .int .i64 y2, .int .i64 y3])).run Try.prog w = .ok (x0 == y0 && (x1 == y1 && (x2 == y2 && (x3 == y3)))) w := by
  refine eqA_of Try.underlying25 (by kernel_rfl) ?_
  refine eqf_cons (by rfl) (by go_simp; rfl) (by go_simp; rfl) (by go_simp) ?_
  refine eqf_cons (by rfl) (by go_simp; rfl) (by go_simp; rfl) (by go_simp) ?_
  refine eqf_cons (by rfl) (by go_simp; rfl) (by go_simp; rfl) (by go_simp) ?_
  exact eqf_last (by rfl) (by go_simp; rfl) (by go_simp; rfl) (by go_simp)
attribute [local go_sem high] eqA25
structure Bx (w W : World) (cs : Array Value) : Prop where
  box : W.heap[w.heap.size]? = some (.cells cs 29 (0, 0))
  bel : Below w.heap.size w W
theorem Bx.below {w W W' : World} {cs : Array Value} (h : Bx w W cs) (hb : Below W.heap.size W W') : Bx w W' cs := ⟨blk_below h.box hb, below_step h.bel hb⟩
theorem Bx.drew {w W : World} {cs : Array Value} (h : Bx w W cs) : Bx w W.drew cs := h.below (below_drew1 (Below.refl _ _))
theorem Bx.alloc {w W : World} {cs : Array Value} (h : Bx w W cs) (o : Obj) : Bx w (W.alloc o) cs := h.below (below_alloc (Below.refl _ _) o)
structure Tx (w W : World) (g : Nat) (q0 : Bool) (q1 q2 : Int) (A : Option Addr) (c : Nat) (ps : List S51) : Prop where
  ret : W.heap[g]? = some (.cells (rC q0 q1 q2 (.slice A ps.length c)) 27 (0, 0))
  gp : Kd.R k51 51 W w.heap.size (fun _ => True) (.slice A ps.length c) ps
theorem Tx.below {w W W' : World} {g : Nat} {q0 : Bool} {q1 q2 : Int} {A : Option Addr} {c : Nat} {ps : List S51} (h : Tx w W g q0 q1 q2 A c ps) (hb : Below W.heap.size W W') : Tx w W' g q0 q1 q2 A c ps := ⟨blk_below h.ret hb, Kd.R_below h.gp hb⟩
structure Lists (k : Nat) (m nn : List S51) (o0 o1 o2 o3 : Int) (b : Bool) (q1 q2 : Int) (ps : List S51) (kk hh : Int) (ck kd p0 p1 p2 p3 : Int) (ch : Bool) (fl : List S51) (fi : Int) (fb : Bool) (fe : Int) (pl : List S51) (pe : Int) (dl : List Int) (de : Int) (sm sr : Bool) : Prop where
  fixed : larchlaw06_fixed.f k = some true
  small : m.length < 100000000
  smalln : nn.length < 100000000
  chk : model_Check.f k m = some ck
  rchk : larchref06_Check.f k m = some ck
  kind : model_Kind.f o0 = some kd
  rkind : larchref06_Kind.f o0 = some kd
  plain : model_Plain.f k o0 o1 o2 o3 = some (p0, p1, p2, p3)
  rplain : larchref06_Plain.f k o0 o1 o2 o3 = some (p0, p1, p2, p3)
  chg : model_Changes.f o0 = some ch
  rchg : larchref06_Changes.f o0 = some ch
  of_ : model_Of.f m = some fl
  rof : larchref06_Of.f k m = some fl
  sof : larchref06_Same.f k fl fl = some true
  find : model_Find.f k m kk = some (fi, fb, fe)
  rfind : larchref06_Find.f k m kk = some (fi, fb, fe)
  part : model_Part.f k m kk hh = some (pl, pe)
  rpart : larchref06_Part.f k m kk hh = some (pl, pe)
  spart : larchref06_Same.f k pl pl = some true
  diff : model_Differ.f k m nn = some (dl, de)
  rdiff : larchref06_Differ.f k m nn = some (dl, de)
  same : model_Same.f k m nn = some sm
  rsame : larchref06_Same.f k m nn = some sm
  sret : model_SameRet.f k b q1 q2 ps b q1 q2 nn = some sr
  rsret : larchref06_SameRet.f k b q1 q2 ps b q1 q2 nn = some sr
  same2 : model_Same.f k m m = some true
  sret2 : model_SameRet.f k b q1 q2 nn b q1 q2 nn = some true
end Go.Proofs.Ytanlnfcjdjamaaa.P
