/- P.eventApart_holds, part 8 of 41: the contracts of the Go functions that the law calls, its own walk, and its plain law, for every input that the statement speaks of. -/
import Derived.Test.YtagdkmcgepidoaaMAp2
import Derived.RegionTactic
import Derived.ChangeAlike
import Derived.Outline
set_option linter.unusedVariables false
set_option linter.unusedSimpArgs false
/- EA -/
namespace Go.Proofs.Ytagdkmcgepidoaa.P
open Go.RowKit Go.Proofs.YtagdkmcgepidoaaW.PrintWords Go.Proofs.YtagdkmcgepidoaaW.PrintLast Go.Proofs.YtagdkmcgepidoaaW.PrintMore
theorem R_array {α : Type} (d : Kd α) {W : World} {base e g n : Nat} {ok okp : Nat → Prop} {xs : List α} {cells : Array Value} (hg : W.heap[g]? = some (.cells cells e (0, 0))) (hb : base ≤ g) (hok : ok g) (hl : xs.length = n) (hrep : Reps (d.M W base okp) d.sz xs cells.toList) (hokp : ∀ k, okp k → ok k ∧ k ≠ g) (hn : n ≤ 9223372036854775807) :
    d.R e W base ok (.slice (some ⟨g, 0, none⟩) n n) xs := by
  subst hl
  refine ⟨fun k hk => ?_, cells.toList, ⟨?_, .inr ⟨g, xs.length, cells, rfl, hb, hg, ?_⟩⟩, hrep.imp_ (fun p c hp => d.M_mono (fun k hk => ⟨(hokp k hk).1, fun he => (hokp k hk).2 ?_⟩) hp)⟩
  · have : g = k := by simpa [Value.ownBlock] using hk
    subst this
    exact hok
  · exact hrep.1
  · exact ⟨Nat.le_refl _, hn, by rw [← Array.length_toList]; exact hrep.1, List.take_of_length_le (Nat.le_of_eq hrep.1)⟩
  · have : k = g := by simpa [Value.ownBlock] using he
    exact this
theorem R_array0 {α : Type} (d : Kd α) {W : World} {base : Nat} (hb : base ≤ W.heap.size) (e : Nat) (z : Value) (m : Nat) (z0 : α) (hz : z.cells.size = d.sz) (hs : 0 < d.sz) (cells : Array Value) (hc : cells = Builtin.zeroCells z.cells m) (h0 : ∀ W', d.M W' base (fun _ => False) z0 z.cells.toList) (hm : m ≤ 9223372036854775807) :
    d.R e (W.alloc (.cells cells e)) base (fun _ => True) (.slice (some ⟨W.heap.size, 0, none⟩) m m) (List.replicate m z0) := by
  subst hc
  exact R_array d (okp := fun _ => False) (blk_new W _) hb trivial (by simp) (Kd.reps_zeros hz hs (h0 _) m) (fun _ h => h.elim) hm
theorem z64b : (#[.bool false, .bool false, .bool false, .bool false, .bool false, .bool false, .bool false, .bool false, .bool false, .bool false, .bool false, .bool false, .bool false, .bool false, .bool false, .bool false, .bool false, .bool false, .bool false, .bool false, .bool false, .bool false, .bool false, .bool false, .bool false, .bool false, .bool false, .bool false, .bool false, .bool false, .bool false, .bool false, .bool false, .bool false, .bool false, .bool false, .bool false, .bool false, .bool false, .bool false, .bool false, .bool false, .bool false, .bool false, .bool false, .bool false, .bool false, .bool false, .bool false, .bool false, .bool false, .bool false, .bool false, .bool false, .bool false, .bool false, .bool false, .bool false, .bool false, .bool false, .bool false, .bool false, .bool false, .bool false] : Array Value) = Builtin.zeroCells (Value.bool false).cells 64 := by kernel_rfl
theorem z64i : (#[.int .i64 0, .int .i64 0, .int .i64 0, .int .i64 0, .int .i64 0, .int .i64 0, .int .i64 0, .int .i64 0, .int .i64 0, .int .i64 0, .int .i64 0, .int .i64 0, .int .i64 0, .int .i64 0, .int .i64 0, .int .i64 0, .int .i64 0, .int .i64 0, .int .i64 0, .int .i64 0, .int .i64 0, .int .i64 0, .int .i64 0, .int .i64 0, .int .i64 0, .int .i64 0, .int .i64 0, .int .i64 0, .int .i64 0, .int .i64 0, .int .i64 0, .int .i64 0, .int .i64 0, .int .i64 0, .int .i64 0, .int .i64 0, .int .i64 0, .int .i64 0, .int .i64 0, .int .i64 0, .int .i64 0, .int .i64 0, .int .i64 0, .int .i64 0, .int .i64 0, .int .i64 0, .int .i64 0, .int .i64 0, .int .i64 0, .int .i64 0, .int .i64 0, .int .i64 0, .int .i64 0, .int .i64 0, .int .i64 0, .int .i64 0, .int .i64 0, .int .i64 0, .int .i64 0, .int .i64 0, .int .i64 0, .int .i64 0, .int .i64 0, .int .i64 0] : Array Value) = Builtin.zeroCells (Value.int .i64 0).cells 64 := by kernel_rfl
def ops4 (W : World) (g : Nat) (i : Int) (x : S33) : World := (((W.setCell ⟨g, i.toNat * 4, none⟩ (.int .i64 x.f0)).setCell ⟨g, i.toNat * 4 + 1, none⟩ (.int .i64 x.f1)).setCell ⟨g, i.toNat * 4 + 2, none⟩ (.int .i64 x.f2)).setCell ⟨g, i.toNat * 4 + 3, none⟩ (.int .i64 x.f3)
theorem arr_ops {W : World} {base g n cap : Nat} {ops : List S33} (h : k33.R 84 W base (fun _ => True) (.slice (some ⟨g, 0, none⟩) n cap) ops) (i : Int) (h0 : 0 ≤ i) (h1 : i < n) (x : S33) :
    k33.R 84 (ops4 W g i x) base (fun _ => True) (.slice (some ⟨g, 0, none⟩) n cap) (ops.set i.toNat x) ∧ W.grownBy (ops4 W g i x) (some g) := by
  obtain ⟨ad, ea, x0, x1, x2, x3⟩ := at_T33 (Kd.R_reads' h).2.2 i h0 (by have := (Kd.R_reads' h).1; omega)
  obtain rfl : (⟨g, 0, none⟩ : Addr) = ad := by injection ea
  simp only [add_plain] at x0 x1 x2 x3
  exact Kd.R_seg h i h0 h1 (c := [.int .i64 (J33 ops i).f0, .int .i64 (J33 ops i).f1, .int .i64 (J33 ops i).f2, .int .i64 (J33 ops i).f3]) (seg := [.int .i64 x.f0, .int .i64 x.f1, .int .i64 x.f2, .int .i64 x.f3]) (j := 0) rfl (fun j u hj => by
    match j, hj with
    | 0, hj => cases hj; exact x0
    | 1, hj => cases hj; exact x1
    | 2, hj => cases hj; exact x2
    | 3, hj => cases hj; exact x3
    | j + 4, hj => simp at hj) (Nat.le_refl _) (k33_mkM W base (fun _ => False) x) (fun _ hk => hk.elim)
theorem arr_round {W : World} {base gA gB : Nat} {op : List Bool} {ops : List S33} (HA : Kd.R Kd.bool 83 W base (fun _ => True) (.slice (some ⟨gA, 0, none⟩) 64 64) op) (HB : k33.R 84 W base (fun _ => True) (.slice (some ⟨gB, 0, none⟩) 64 64) ops) (i : Int) (h0 : 0 ≤ i) (h1 : i < 64) (b : Bool) (x : S33) :
    Kd.R Kd.bool 83 (ops4 (W.setCell ⟨gA, i.toNat, none⟩ (.bool b)) gB i x) base (fun _ => True) (.slice (some ⟨gA, 0, none⟩) 64 64) (op.set i.toNat b) ∧ k33.R 84 (ops4 (W.setCell ⟨gA, i.toNat, none⟩ (.bool b)) gB i x) base (fun _ => True) (.slice (some ⟨gB, 0, none⟩) 64 64) (ops.set i.toNat x) := by
  have h2 := Kd.R_putg HA i b
  have h3 := Kd.R_over HB HA (by decide) h2.2
  have h4 := arr_ops h3 i h0 h1 x
  exact ⟨Kd.R_over h2.1 h3 (by decide) h4.2, h4.1⟩
def bareB (n : S36) : Bool := !n.f0 && (n.f1 == 0 && (n.f2 == 0 && (n.f3.length : Int) == 0))
set_option maxHeartbeats 8000000 in
set_option maxRecDepth 100000 in
theorem bare_calls (n : S36) (A : Option Addr) (c : Nat) (w : World) : Calls Try.prog 55 #[.agg #[.bool n.f0, .int .i64 n.f1, .int .i64 n.f2, .slice A n.f3.length c]] w fun e w' => e = .returned (.bool (bareB n)) ∧ w.alloc (.cells #[.bool n.f0, .int .i64 n.f1, .int .i64 n.f2, .slice A n.f3.length c] 36) = w' := by
  have hu36 := Try.underlying36
  unfold bareB
  go_enter Try.func55, Try.ntmps55
  go_wp2
  all_goals
    go_ret
    exact ⟨by simp [*], by simp [*]⟩
end Go.Proofs.Ytagdkmcgepidoaa.P
