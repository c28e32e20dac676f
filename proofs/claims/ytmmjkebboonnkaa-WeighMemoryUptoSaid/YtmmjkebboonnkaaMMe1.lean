/- P.weighMemory_holds, part 2 of 28: the contracts of the Go functions that the law calls, its own walk, and its plain law, for every input that the statement speaks of. -/
import Derived.Test.YtmmjkebboonnkaaProg
import Derived.Below
import Derived.Deep.Draws
import Derived.Deep.AppendLies
import Derived.Maps.AppendAt
import Derived.OwnWalk
import Derived.Laws.BytesArg
import Derived.Laws.MakeOwn
import Derived.Laws.OwnMore
import Derived.Deep.OwnRows
import Derived.Tactics
import Derived.Lib.ConvBytes
import Derived.Laws.Slices
import Derived.WalkKit
import Derived.KernelRfl
import Derived.RowKit3
import Derived.Deep.LoopGhost
import Derived.Deep.QuietTactic
import Derived.BigQuiet
import Derived.WideLaws
import Derived.Deep.DeepCutAuto
import Derived.Deep.CutBlock
import Derived.Deep.RegionHeld3
import Derived.Laws.Rows
import Derived.Lib.AppendStr
import Derived.ArgAppend
import Derived.Laws.IdiomCopy
import Derived.OrdersHeld
import Derived.Laws.BitsLemmas
import Derived.RowKit
import Derived.Test.YtmmjkebboonnkaaMMe0
set_option linter.unusedVariables false
set_option linter.unusedSimpArgs false
/- K0 -/
namespace Go.Proofs.Ytmmjkebboonnkaa.P
open Go.RowKit Go.Proofs.YtmmjkebboonnkaaW.PrintWords Go.Proofs.YtmmjkebboonnkaaW.PrintLast Go.Proofs.YtmmjkebboonnkaaW.PrintMore
class Later (w w' : World) : Prop where
  b : Below w.heap.size w w'
instance Later_refl (w : World) : Later w w := ⟨Below.refl _ _⟩
instance Later_alloc (w w1 : World) (o : Obj) [h : Later w w1] : Later w (w1.alloc o) := ⟨below_alloc h.b o⟩
instance Later_drew (w w1 : World) [h : Later w w1] : Later w w1.drew := ⟨below_drew1 h.b⟩
instance Later_drewN (w w1 : World) (n : Nat) [h : Later w w1] : Later w (w1.drewN n) := ⟨pw_below_drewN h.b n⟩
class Bare (w : outParam World) (w' : World) : Prop where
  b : Below w.heap.size w w'
instance (priority := low) Bare_refl (w : World) : Bare w w := ⟨Below.refl _ _⟩
instance Bare_alloc (w w1 : World) (o : Obj) [h : Bare w w1] : Bare w (w1.alloc o) := ⟨below_alloc h.b o⟩
instance Bare_drew (w w1 : World) [h : Bare w w1] : Bare w w1.drew := ⟨below_drew1 h.b⟩
instance Bare_drewN (w w1 : World) (n : Nat) [h : Bare w w1] : Bare w (w1.drewN n) := ⟨pw_below_drewN h.b n⟩
theorem skB {v w w' : World} (h : Below v.heap.size v w) [hL : Later w w'] : Below v.heap.size v w' := below_step h hL.b
theorem skK {w w' : World} {g : Nat} {o : Obj} (h : w.heap[g]? = some o) [hL : Later w w'] : w'.heap[g]? = some o := blk_below h hL.b
theorem skk {w w' : World} {g : Nat} {o : Obj} [hL : Bare w w'] (h : w.heap[g]? = some o) : w'.heap[g]? = some o := blk_below h hL.b
theorem skR {α : Type} {d : Kd α} {e base : Nat} {ok : Nat → Prop} {w w' : World} {v : Value} {xs : List α} (h : d.R e w base ok v xs) [hL : Later w w'] : d.R e w' base ok v xs := Kd.R_below h hL.b
theorem skC {α : Type} {d : Kd α} {w w' : World} {A : Option Addr} {n : Nat} {xs : List α} (h : d.C w A n xs) [hL : Later w w'] : d.C w' A n xs := Kd.C_below h hL.b
theorem skc {w w1 : World} (h : Below w.heap.size w w1) {a : Addr} {v : Value} (hc : w.cell? a = some v) : w1.cell? a = some v := pw_cell_below h hc
class LaterG (g1 g2 : Nat) (w w' : World) : Prop where
  b : ∀ v : World, v.heap.size ≤ g1 → v.heap.size ≤ g2 → Below v.heap.size v w → Below v.heap.size v w'
instance LaterG_refl (g1 g2 : Nat) (w : World) : LaterG g1 g2 w w := ⟨fun _ _ _ h => h⟩
instance LaterG_alloc (g1 g2 : Nat) (w w1 : World) (o : Obj) [h : LaterG g1 g2 w w1] : LaterG g1 g2 w (w1.alloc o) := ⟨fun v a b c => below_alloc (h.b v a b c) o⟩
instance LaterG_drew (g1 g2 : Nat) (w w1 : World) [h : LaterG g1 g2 w w1] : LaterG g1 g2 w w1.drew := ⟨fun v a b c => below_drew1 (h.b v a b c)⟩
instance LaterG_drewN (g1 g2 : Nat) (w w1 : World) (n : Nat) [h : LaterG g1 g2 w w1] : LaterG g1 g2 w (w1.drewN n) := ⟨fun v a b c => pw_below_drewN (h.b v a b c) n⟩
instance LaterG_set1 (g1 g2 : Nat) (w w1 : World) (i : Nat) (u : Value) [h : LaterG g1 g2 w w1] : LaterG g1 g2 w (w1.setCell ⟨g1, i, none⟩ u) := ⟨fun v a b c => below_set (h.b v a b c) a⟩
instance LaterG_set2 (g1 g2 : Nat) (w w1 : World) (i : Nat) (u : Value) [h : LaterG g1 g2 w w1] : LaterG g1 g2 w (w1.setCell ⟨g2, i, none⟩ u) := ⟨fun v a b c => below_set (h.b v a b c) b⟩
theorem skG {v w w' : World} (h : Below v.heap.size v w) {g1 g2 : Nat} (h1 : v.heap.size ≤ g1) (h2 : v.heap.size ≤ g2) [hL : LaterG g1 g2 w w'] : Below v.heap.size v w' := hL.b v h1 h2 h
theorem asd {p : Prop} (h : p) : Aside0 p := ⟨h⟩
theorem sp : (∀ {α : Type} {l : List α} {i : Nat} {a : α}, l.toArray.setIfInBounds i a = (l.set i a).toArray) ∧ (∀ {α : Type} {x a : α} {xs : List α}, (x :: xs).set 0 a = a :: xs) ∧ (∀ {α : Type} {x a : α} {xs : List α} {n : Nat}, (x :: xs).set (n + 1) a = x :: xs.set n a) ∧ (∀ n, IntKind.i64.wrap n = wrap64 n) ∧ (∀ n, IntKind.i32.wrap n = wrap32 n) := ⟨by simp, by simp, by simp, i64_w, i32_w⟩
theorem aK {md : Region.Mode} {ops : Array Oper} {T : Bool × List (List Nat × List Nat)} {l l' : Array Bool} {i : Nat} (hT : rtab md ops = T) (h : anyT T l.toList l'.toList i = true := by kernel_rfl) : anyB md ops l l' i = true := any_of hT h
theorem dt {p : Prop} [Decidable p] (h : decide p = true := by first | (with_reducible assumption) | assumption) : p := of_decide_eq_true h
theorem ags {p : Prop} (h : p := by (try simp only [List.map_toArray, List.map_cons, List.map_nil]); first | done | rfl | (simp only [List.length_drop, List.length_take]; rfl)) : p := h
theorem rs {p : Prop} (h : p := by first | rfl | (simp; done) | (simp [*]; done)) : p := h
theorem re {p : Prop} (h : p := by first | rfl | (simp [errW_none, errW_some] <;> rfl) | (simp [*, errW_none, errW_some] <;> rfl)) : p := h
theorem bk6 {w : World} {g : Nat} {t : TypeId} {a b c d e f : Value} (h : w.heap[g]? = some (.cells #[a, b, c, d, e, f] t (0, 0))) : w.cell? ⟨g, 0, none⟩ = some a ∧ w.cell? ⟨g, 1, none⟩ = some b ∧ w.cell? ⟨g, 2, none⟩ = some c ∧ w.cell? ⟨g, 3, none⟩ = some d ∧ w.cell? ⟨g, 4, none⟩ = some e ∧ w.cell? ⟨g, 5, none⟩ = some f ∧ w.frozen? ⟨g, 0, none⟩ = false ∧ w.frozen? ⟨g, 1, none⟩ = false ∧ w.frozen? ⟨g, 2, none⟩ = false ∧ w.frozen? ⟨g, 3, none⟩ = false ∧ w.frozen? ⟨g, 4, none⟩ = false ∧ w.frozen? ⟨g, 5, none⟩ = false := ⟨(blk_cell h 0).trans rfl, (blk_cell h 1).trans rfl, (blk_cell h 2).trans rfl, (blk_cell h 3).trans rfl, (blk_cell h 4).trans rfl, (blk_cell h 5).trans rfl, blk_frozen h 0, blk_frozen h 1, blk_frozen h 2, blk_frozen h 3, blk_frozen h 4, blk_frozen h 5⟩
end Go.Proofs.Ytmmjkebboonnkaa.P
