/- P.eventApart_holds, part 38 of 41: the contracts of the Go functions that the law calls, its own walk, and its plain law, for every input that the statement speaks of. -/
import Derived.Test.YtagdkmcgepidoaaMAp33
import Derived.Deep.RegionHeld3
import Derived.Test.YtagdkmcgepidoaaMAp36
import Derived.Test.YtagdkmcgepidoaaMAp2
import Derived.Test.YtagdkmcgepidoaaMAp3
import Derived.Test.YtagdkmcgepidoaaMAp4
set_option linter.unusedVariables false
set_option linter.unusedSimpArgs false
/- E16 -/
namespace Go.Proofs.Ytagdkmcgepidoaa.P
open Go.RowKit Go.Proofs.YtagdkmcgepidoaaW.PrintWords Go.Proofs.YtagdkmcgepidoaaW.PrintLast Go.Proofs.YtagdkmcgepidoaaW.PrintMore
def unc (x : S76) : S38 := ⟨x.f0, x.f1, x.f2, x.f3, x.f4⟩
def cmpGo (cs back : List S76) : Nat → Nat → Option Bool
  | 0, _ => some true
  | d + 1, j => if j < back.length then (if (J76 back (j : Int)).f3 = (J76 cs (j : Int)).f3 then (if (J76 back (j : Int)).f4 = (J76 cs (j : Int)).f4 then cmpGo cs back d (j + 1) else some false) else some false) else none
def refEv (k : Nat) (l0 : List S76) : Option (List S67) → Option (List S67 × Int)
  | none => some ([], 3)
  | some o => (larchref05_Check.f k o).bind fun e => if e = 0 then ((larchref05_calls.f k o).bind fun back => (cmpGo l0 back l0.length 0).bind fun b => if b = true then some (o, 0) else some ([], 3)) else some ([], e)
def larchref05_Events.f (k : Nat) (l0 : List S76) : Option (List S67 × Int) := if l0.length > 100000 then some ([], 2) else if evNum (l0.map unc) > 100000 then some ([], 3) else if ∀ c ∈ l0, c.f2.f3.length ≤ 1048576 then refEv k l0 (evGo (l0.map unc) (evNum (l0.map unc)) l0.length 0 (-1) (List.replicate (evNum (l0.map unc)) false) (List.replicate (evNum (l0.map unc)) z67)) else none
structure Box76 (B : Nat) (y : S76) (A8 : Option Addr) (c8 : Nat) (W : World) : Prop where
  b0 : W.cell? ⟨B, 0, none⟩ = some (.int .i64 y.f0)
  b1 : W.cell? ⟨B, 1, none⟩ = some (.int .i64 y.f1.f0)
  b2 : W.cell? ⟨B, 2, none⟩ = some (.int .i64 y.f1.f1)
  b3 : W.cell? ⟨B, 3, none⟩ = some (.int .i64 y.f1.f2)
  b4 : W.cell? ⟨B, 4, none⟩ = some (.int .i64 y.f1.f3)
  b5 : W.cell? ⟨B, 5, none⟩ = some (.bool y.f2.f0)
  b6 : W.cell? ⟨B, 6, none⟩ = some (.int .i64 y.f2.f1)
  b7 : W.cell? ⟨B, 7, none⟩ = some (.int .i64 y.f2.f2)
  b8 : W.cell? ⟨B, 8, none⟩ = some (.slice A8 y.f2.f3.length c8)
  b9 : W.cell? ⟨B, 9, none⟩ = some (.int .i64 y.f3)
  b10 : W.cell? ⟨B, 10, none⟩ = some (.int .i64 y.f4)
theorem Box76.heap {B : Nat} {y : S76} {A8 : Option Addr} {c8 : Nat} {W W' : World} (h : Box76 B y A8 c8 W) (e : W'.heap[B]? = W.heap[B]?) : Box76 B y A8 c8 W' :=
  ⟨cell_heap e h.b0, cell_heap e h.b1, cell_heap e h.b2, cell_heap e h.b3, cell_heap e h.b4, cell_heap e h.b5, cell_heap e h.b6, cell_heap e h.b7, cell_heap e h.b8, cell_heap e h.b9, cell_heap e h.b10⟩
theorem Box76.lt {B : Nat} {y : S76} {A8 : Option Addr} {c8 : Nat} {W : World} (h : Box76 B y A8 c8 W) : B < W.heap.size := q_lt h.b0 rfl
theorem Box76.below {B : Nat} {y : S76} {A8 : Option Addr} {c8 : Nat} {W W' : World} (h : Box76 B y A8 c8 W) (hb : Below W.heap.size W W') : Box76 B y A8 c8 W' := h.heap (hb.block B h.lt)
structure RI (w : World) (n s g cs cg : Nat) (set : List Bool) (out : List S67) (W : World) : Prop where
  HS : Kd.R Kd.bool 4 W w.heap.size (fun _ => True) (.slice (some ⟨s, 0, none⟩) n cs) set
  HO : Kd.S k67 67 W w.heap.size (fun _ => True) (.slice (some ⟨g, 0, none⟩) n cg) out
  HB : Below w.heap.size w W
theorem RI.below {w : World} {n s g cs cg : Nat} {set : List Bool} {out : List S67} {W W' : World} (h : RI w n s g cs cg set out W) (hb : Below W.heap.size W W') : RI w n s g cs cg set out W' :=
  ⟨Kd.R_below h.HS hb, Kd.S_below h.HO hb, below_step h.HB hb⟩
theorem RI.put {w : World} {n s g cs cg : Nat} {set : List Bool} {out : List S67} {W : World} (h : RI w n s g cs cg set out W) (p : Int) (q0 : 0 ≤ p) (q1 : p < n) (x : S67) {A9 : Option Addr} {c9 N : Nat} (hv : k70.R 70 W N (fun _ => True) (.slice A9 x.f3.f3.length c9) x.f3.f3) (hN : w.heap.size ≤ N) (hO : Kd.S k67 67 W w.heap.size (fun k => k < N) (.slice (some ⟨g, 0, none⟩) n cg) out) :
    RI w n s g cs cg set (out.set p.toNat x) (W.setCells g (p.toNat * 10) (c67 x A9 c9)) ∧ ∀ k, k < W.heap.size → k ≠ g → (W.setCells g (p.toNat * 10) (c67 x A9 c9)).heap[k]? = W.heap[k]? := by
  obtain ⟨-, -, HO3, hg3⟩ := S_put67 x hO hv hN p q0 q1
  have hgb : w.heap.size ≤ g := Kd.S_base h.HO g (by simp [Value.ownBlock])
  exact ⟨⟨Kd.R_over' h.HS (Kd.S_typed h.HO) (by decide) hg3, HO3, h.HB.grown hg3 h.HB.size (fun k hk => by injection hk with hk; omega)⟩, fun k hk hne => hg3.block k hk (fun he => hne (by injection he))⟩
theorem RI.ne {w : World} {n s g cs cg : Nat} {set : List Bool} {out : List S67} {W : World} (h : RI w n s g cs cg set out W) : s ≠ g := by
  obtain ⟨ys, hys⟩ := Kd.R_typed h.HS s (by simp [Value.ownBlock])
  obtain ⟨yg, hyg⟩ := Kd.S_typed h.HO g (by simp [Value.ownBlock])
  rintro rfl
  rw [hys] at hyg
  injection hyg with hyg
  injection hyg with _ hyg
  cases hyg
end Go.Proofs.Ytagdkmcgepidoaa.P
