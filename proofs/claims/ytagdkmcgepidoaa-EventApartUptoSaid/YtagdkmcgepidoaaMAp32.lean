/- P.eventApart_holds, part 33 of 41: the contracts of the Go functions that the law calls, its own walk, and its plain law, for every input that the statement speaks of. -/
import Derived.Test.YtagdkmcgepidoaaMAp31
import Derived.Test.YtagdkmcgepidoaaMAp9
set_option linter.unusedVariables false
set_option linter.unusedSimpArgs false
/- E13 -/
namespace Go.Proofs.Ytagdkmcgepidoaa.P
open Go.RowKit Go.Proofs.YtagdkmcgepidoaaW.PrintWords Go.Proofs.YtagdkmcgepidoaaW.PrintLast Go.Proofs.YtagdkmcgepidoaaW.PrintMore
def agg67 (x : S67) (A : Option Addr) (c : Nat) : Value := .agg #[.int .i64 x.f0, .bool x.f1, .int .i64 x.f2.f0, .int .i64 x.f2.f1, .int .i64 x.f2.f2, .int .i64 x.f2.f3, .bool x.f3.f0, .int .i64 x.f3.f1, .int .i64 x.f3.f2, .slice A x.f3.f3.length c]
theorem S_put67 {W : World} {base N g n cap : Nat} {xs : List S67} {A : Option Addr} {m : Nat} (x : S67) (h : Kd.S k67 67 W base (fun k => k < N) (.slice (some ⟨g, 0, none⟩) n cap) xs) (hv : k70.R 70 W N (fun _ => True) (.slice A x.f3.f3.length m) x.f3.f3) (hN : base ≤ N) (i : Int) (h0 : 0 ≤ i) (h1 : i < n) :
    (∀ q, q < 10 → (∃ u, W.cell? ⟨g, i.toNat * 10 + q, none⟩ = some u)) ∧ (∀ q, W.frozen? ⟨g, i.toNat * 10 + q, none⟩ = false) ∧
    Kd.S k67 67 (W.setCells g (i.toNat * 10) (c67 x A m)) base (fun _ => True) (.slice (some ⟨g, 0, none⟩) n cap) (xs.set i.toNat x) ∧ W.grownBy (W.setCells g (i.toNat * 10) (c67 x A m)) (some g) := by
  obtain ⟨oki, c, hcl, hM, hcc, hfr, hoki, hH⟩ := Kd.S_elem h z67 i h0 h1
  obtain ⟨v9, rfl, g9⟩ := k67_openM hM
  have hg : g < N := (Kd.S_R h).1 g (by simp [Value.ownBlock])
  refine ⟨fun q hq => ?_, hfr, ?_⟩
  · have : q = 0 ∨ q = 1 ∨ q = 2 ∨ q = 3 ∨ q = 4 ∨ q = 5 ∨ q = 6 ∨ q = 7 ∨ q = 8 ∨ q = 9 := by omega
    rcases this with rfl | rfl | rfl | rfl | rfl | rfl | rfl | rfl | rfl | rfl <;> exact ⟨_, hcc _ _ rfl⟩
  exact Kd.S_seg (d := k67) (okg := fun k => N ≤ k) (ok := fun _ => True) (Kd.H_mono hH (fun k hk => ⟨trivial, by omega⟩)) h0 h1 (seg := c67 x A m) (j := 0) (show 10 ≤ 10 by decide)
    (x' := x) (okp := fun k => N ≤ k) (k67_mkM W base _ x (Kd.R_lower (Kd.R_mono (Kd.R_bound hv) (fun k hk => hk.2.1)) hN)) (fun k hk => .inr hk) (fun k hk => ⟨trivial, by omega⟩)
structure Put (p : Int) (x : S67) (s g n cs cg base : Nat) (set : List Bool) (out : List S67) (W : World) (e : Ending) (w' : World) : Prop where
  no : ¬ ((0 ≤ p ∧ p < n) ∧ rdOf false set p = false) → e = .returned (.bool false) ∧ Below W.heap.size W w'
  yes : ((0 ≤ p ∧ p < n) ∧ rdOf false set p = false) → e = .returned (.bool true) ∧ Kd.R Kd.bool 4 w' base (fun _ => True) (.slice (some ⟨s, 0, none⟩) n cs) (set.set p.toNat true) ∧ Kd.S k67 67 w' base (fun _ => True) (.slice (some ⟨g, 0, none⟩) n cg) (out.set p.toNat x) ∧ (∀ k, k < W.heap.size → k ≠ s → k ≠ g → w'.heap[k]? = W.heap[k]?) ∧ Below base W w'
set_option maxHeartbeats 8000000 in
set_option maxRecDepth 100000 in
theorem put_calls (n : Nat) (p : Int) (x : S67) (A9 : Option Addr) (c9 gn gs go s g cs cg base N : Nat) (set : List Bool) (out : List S67) (W : World)
    (hn : W.cell? ⟨gn, 0, none⟩ = some (.int .i64 (n : Int))) (hs : W.cell? ⟨gs, 0, none⟩ = some (.slice (some ⟨s, 0, none⟩) n cs)) (ho : W.cell? ⟨go, 0, none⟩ = some (.slice (some ⟨g, 0, none⟩) n cg))
    (HS : Kd.R Kd.bool 4 W base (fun _ => True) (.slice (some ⟨s, 0, none⟩) n cs) set) (HO : Kd.S k67 67 W base (fun k => k < N) (.slice (some ⟨g, 0, none⟩) n cg) out)
    (hv : k70.R 70 W N (fun _ => True) (.slice A9 x.f3.f3.length c9) x.f3.f3) (hN : base ≤ N) (hbW : base ≤ W.heap.size) (hgos : go ≠ s) :
    Calls Try.prog 66 #[.int .i64 p, agg67 x A9 c9, .pointer (some ⟨gn, 0, none⟩), .pointer (some ⟨gs, 0, none⟩), .pointer (some ⟨go, 0, none⟩)] W (Put p x s g n cs cg base set out W) := by
  have hu67 := Try.underlying67
  have hb0 : Below base W W := Below.refl _ _
  have hb1 : Below base W (W.alloc (.cells #[.int .i64 x.f0, .bool x.f1, .int .i64 x.f2.f0, .int .i64 x.f2.f1, .int .i64 x.f2.f2, .int .i64 x.f2.f3, .bool x.f3.f0, .int .i64 x.f3.f1, .int .i64 x.f3.f2, .slice A9 x.f3.f3.length c9] 67)) := hb0.alloc hbW _
  have hbA := below_alloc (Below.refl W.heap.size W) (.cells #[.int .i64 x.f0, .bool x.f1, .int .i64 x.f2.f0, .int .i64 x.f2.f1, .int .i64 x.f2.f2, .int .i64 x.f2.f3, .bool x.f3.f0, .int .i64 x.f3.f1, .int .i64 x.f3.f2, .slice A9 x.f3.f3.length c9] 67)
  have n1 := pw_cell_below hbA hn
  have s1 := pw_cell_below hbA hs
  have o1 := pw_cell_below hbA ho
  have HS1 := Aside0.mk (Kd.R_below HS hbA)
  have HO1 := Aside0.mk (Kd.S_below HO hbA)
  have HV1 := Aside0.mk (Kd.R_below hv hbA)
  have HBA := Aside0.mk hbA
  have HB1 := Aside0.mk hb1
  clear hbA hb1 hn hs ho
  by_cases p0 : p < 0
  · go_enter Try.func66, Try.ntmps66
    unfold agg67
    go_wp2
    go_ret
    exact ⟨fun _ => ⟨rfl, HBA.out⟩, fun h => by omega⟩
  by_cases p1 : (n : Int) ≤ p
  · go_enter Try.func66, Try.ntmps66
    unfold agg67
    go_wp2
    go_ret
    exact ⟨fun _ => ⟨rfl, HBA.out⟩, fun h => by omega⟩
  have q0 : 0 ≤ p := by omega
  have q1 : p < (n : Int) := by omega
  obtain ⟨x1, f1⟩ := Kd.R_celln false HS1.out p q0 q1
  obtain ⟨b, hb⟩ : ∃ b, rdOf false set p = b := ⟨_, rfl⟩
  rw [hb] at x1
  have HBB := Aside0.mk hb
  clear hb
  cases b with
  | true =>
    go_enter Try.func66, Try.ntmps66
    unfold agg67
    go_wp2
    go_ret
    exact ⟨fun _ => ⟨rfl, HBA.out⟩, fun h => by have := HBB.out; rw [this] at h; cases h.2⟩
  | false =>
    obtain ⟨hc, hf, -, -⟩ := S_put67 x HO1.out HV1.out hN p q0 q1
    obtain ⟨u0, c20⟩ := hc 0 (by decide)
    have z0 := hf 0
    obtain ⟨u1, c21⟩ := hc 1 (by decide)
    have z1 := hf 1
    obtain ⟨u2, c22⟩ := hc 2 (by decide)
    have z2 := hf 2
    obtain ⟨u3, c23⟩ := hc 3 (by decide)
    have z3 := hf 3
    obtain ⟨u4, c24⟩ := hc 4 (by decide)
    have z4 := hf 4
    obtain ⟨u5, c25⟩ := hc 5 (by decide)
    have z5 := hf 5
    obtain ⟨u6, c26⟩ := hc 6 (by decide)
    have z6 := hf 6
    obtain ⟨u7, c27⟩ := hc 7 (by decide)
    have z7 := hf 7
    obtain ⟨u8, c28⟩ := hc 8 (by decide)
    have z8 := hf 8
    obtain ⟨u9, c29⟩ := hc 9 (by decide)
    have z9 := hf 9
    simp only [Nat.add_zero] at c20 z0
    clear hc hf
    obtain ⟨ys, hys⟩ := Kd.R_typed HS1.out s (by simp [Value.ownBlock])
    obtain ⟨yg, hyg⟩ := Kd.S_typed HO1.out g (by simp [Value.ownBlock])
    have hne : s ≠ g := by
      rintro rfl
      rw [hys] at hyg
      injection hyg with hyg
      injection hyg with _ hyg
      cases hyg
    have hne2 : g ≠ s := fun h => hne h.symm
    have hsl : s < W.heap.size := Kd.R_lt HS s (by simp [Value.ownBlock])
    have hgl : g < W.heap.size := Kd.S_lt HO g (by simp [Value.ownBlock])
    have hne3 : W.heap.size ≠ s := by omega
    have hne4 : W.heap.size ≠ g := by omega
    have hne5 : s ≠ W.heap.size := by omega
    have hne6 : g ≠ W.heap.size := by omega
    have hne7 : s ≠ go := fun h => hgos h.symm
    have HYS := Aside0.mk hys
    clear hys hyg
    have b0 : (W.alloc (.cells #[.int .i64 x.f0, .bool x.f1, .int .i64 x.f2.f0, .int .i64 x.f2.f1, .int .i64 x.f2.f2, .int .i64 x.f2.f3, .bool x.f3.f0, .int .i64 x.f3.f1, .int .i64 x.f3.f2, .slice A9 x.f3.f3.length c9] 67)).cell? ⟨W.heap.size, 0, none⟩ = some (.int .i64 x.f0) := (blk_cell (blk_new W (.cells #[.int .i64 x.f0, .bool x.f1, .int .i64 x.f2.f0, .int .i64 x.f2.f1, .int .i64 x.f2.f2, .int .i64 x.f2.f3, .bool x.f3.f0, .int .i64 x.f3.f1, .int .i64 x.f3.f2, .slice A9 x.f3.f3.length c9] 67)) 0).trans rfl
    have b1 : (W.alloc (.cells #[.int .i64 x.f0, .bool x.f1, .int .i64 x.f2.f0, .int .i64 x.f2.f1, .int .i64 x.f2.f2, .int .i64 x.f2.f3, .bool x.f3.f0, .int .i64 x.f3.f1, .int .i64 x.f3.f2, .slice A9 x.f3.f3.length c9] 67)).cell? ⟨W.heap.size, 1, none⟩ = some (.bool x.f1) := (blk_cell (blk_new W (.cells #[.int .i64 x.f0, .bool x.f1, .int .i64 x.f2.f0, .int .i64 x.f2.f1, .int .i64 x.f2.f2, .int .i64 x.f2.f3, .bool x.f3.f0, .int .i64 x.f3.f1, .int .i64 x.f3.f2, .slice A9 x.f3.f3.length c9] 67)) 1).trans rfl
    have b2 : (W.alloc (.cells #[.int .i64 x.f0, .bool x.f1, .int .i64 x.f2.f0, .int .i64 x.f2.f1, .int .i64 x.f2.f2, .int .i64 x.f2.f3, .bool x.f3.f0, .int .i64 x.f3.f1, .int .i64 x.f3.f2, .slice A9 x.f3.f3.length c9] 67)).cell? ⟨W.heap.size, 2, none⟩ = some (.int .i64 x.f2.f0) := (blk_cell (blk_new W (.cells #[.int .i64 x.f0, .bool x.f1, .int .i64 x.f2.f0, .int .i64 x.f2.f1, .int .i64 x.f2.f2, .int .i64 x.f2.f3, .bool x.f3.f0, .int .i64 x.f3.f1, .int .i64 x.f3.f2, .slice A9 x.f3.f3.length c9] 67)) 2).trans rfl
    have b3 : (W.alloc (.cells #[.int .i64 x.f0, .bool x.f1, .int .i64 x.f2.f0, .int .i64 x.f2.f1, .int .i64 x.f2.f2, .int .i64 x.f2.f3, .bool x.f3.f0, .int .i64 x.f3.f1, .int .i64 x.f3.f2, .slice A9 x.f3.f3.length c9] 67)).cell? ⟨W.heap.size, 3, none⟩ = some (.int .i64 x.f2.f1) := (blk_cell (blk_new W (.cells #[.int .i64 x.f0, .bool x.f1, .int .i64 x.f2.f0, .int .i64 x.f2.f1, .int .i64 x.f2.f2, .int .i64 x.f2.f3, .bool x.f3.f0, .int .i64 x.f3.f1, .int .i64 x.f3.f2, .slice A9 x.f3.f3.length c9] 67)) 3).trans rfl
    have b4 : (W.alloc (.cells #[.int .i64 x.f0, .bool x.f1, .int .i64 x.f2.f0, .int .i64 x.f2.f1, .int .i64 x.f2.f2, .int .i64 x.f2.f3, .bool x.f3.f0, .int .i64 x.f3.f1, .int .i64 x.f3.f2, .slice A9 x.f3.f3.length c9] 67)).cell? ⟨W.heap.size, 4, none⟩ = some (.int .i64 x.f2.f2) := (blk_cell (blk_new W (.cells #[.int .i64 x.f0, .bool x.f1, .int .i64 x.f2.f0, .int .i64 x.f2.f1, .int .i64 x.f2.f2, .int .i64 x.f2.f3, .bool x.f3.f0, .int .i64 x.f3.f1, .int .i64 x.f3.f2, .slice A9 x.f3.f3.length c9] 67)) 4).trans rfl
    have b5 : (W.alloc (.cells #[.int .i64 x.f0, .bool x.f1, .int .i64 x.f2.f0, .int .i64 x.f2.f1, .int .i64 x.f2.f2, .int .i64 x.f2.f3, .bool x.f3.f0, .int .i64 x.f3.f1, .int .i64 x.f3.f2, .slice A9 x.f3.f3.length c9] 67)).cell? ⟨W.heap.size, 5, none⟩ = some (.int .i64 x.f2.f3) := (blk_cell (blk_new W (.cells #[.int .i64 x.f0, .bool x.f1, .int .i64 x.f2.f0, .int .i64 x.f2.f1, .int .i64 x.f2.f2, .int .i64 x.f2.f3, .bool x.f3.f0, .int .i64 x.f3.f1, .int .i64 x.f3.f2, .slice A9 x.f3.f3.length c9] 67)) 5).trans rfl
    have b6 : (W.alloc (.cells #[.int .i64 x.f0, .bool x.f1, .int .i64 x.f2.f0, .int .i64 x.f2.f1, .int .i64 x.f2.f2, .int .i64 x.f2.f3, .bool x.f3.f0, .int .i64 x.f3.f1, .int .i64 x.f3.f2, .slice A9 x.f3.f3.length c9] 67)).cell? ⟨W.heap.size, 6, none⟩ = some (.bool x.f3.f0) := (blk_cell (blk_new W (.cells #[.int .i64 x.f0, .bool x.f1, .int .i64 x.f2.f0, .int .i64 x.f2.f1, .int .i64 x.f2.f2, .int .i64 x.f2.f3, .bool x.f3.f0, .int .i64 x.f3.f1, .int .i64 x.f3.f2, .slice A9 x.f3.f3.length c9] 67)) 6).trans rfl
    have b7 : (W.alloc (.cells #[.int .i64 x.f0, .bool x.f1, .int .i64 x.f2.f0, .int .i64 x.f2.f1, .int .i64 x.f2.f2, .int .i64 x.f2.f3, .bool x.f3.f0, .int .i64 x.f3.f1, .int .i64 x.f3.f2, .slice A9 x.f3.f3.length c9] 67)).cell? ⟨W.heap.size, 7, none⟩ = some (.int .i64 x.f3.f1) := (blk_cell (blk_new W (.cells #[.int .i64 x.f0, .bool x.f1, .int .i64 x.f2.f0, .int .i64 x.f2.f1, .int .i64 x.f2.f2, .int .i64 x.f2.f3, .bool x.f3.f0, .int .i64 x.f3.f1, .int .i64 x.f3.f2, .slice A9 x.f3.f3.length c9] 67)) 7).trans rfl
    have b8 : (W.alloc (.cells #[.int .i64 x.f0, .bool x.f1, .int .i64 x.f2.f0, .int .i64 x.f2.f1, .int .i64 x.f2.f2, .int .i64 x.f2.f3, .bool x.f3.f0, .int .i64 x.f3.f1, .int .i64 x.f3.f2, .slice A9 x.f3.f3.length c9] 67)).cell? ⟨W.heap.size, 8, none⟩ = some (.int .i64 x.f3.f2) := (blk_cell (blk_new W (.cells #[.int .i64 x.f0, .bool x.f1, .int .i64 x.f2.f0, .int .i64 x.f2.f1, .int .i64 x.f2.f2, .int .i64 x.f2.f3, .bool x.f3.f0, .int .i64 x.f3.f1, .int .i64 x.f3.f2, .slice A9 x.f3.f3.length c9] 67)) 8).trans rfl
    have b9 : (W.alloc (.cells #[.int .i64 x.f0, .bool x.f1, .int .i64 x.f2.f0, .int .i64 x.f2.f1, .int .i64 x.f2.f2, .int .i64 x.f2.f3, .bool x.f3.f0, .int .i64 x.f3.f1, .int .i64 x.f3.f2, .slice A9 x.f3.f3.length c9] 67)).cell? ⟨W.heap.size, 9, none⟩ = some (.slice A9 x.f3.f3.length c9) := (blk_cell (blk_new W (.cells #[.int .i64 x.f0, .bool x.f1, .int .i64 x.f2.f0, .int .i64 x.f2.f1, .int .i64 x.f2.f2, .int .i64 x.f2.f3, .bool x.f3.f0, .int .i64 x.f3.f1, .int .i64 x.f3.f2, .slice A9 x.f3.f3.length c9] 67)) 9).trans rfl
    go_enter Try.func66, Try.ntmps66
    unfold agg67
    go_wp2
    obtain ⟨W1, hW1⟩ : ∃ W1, W1 = (W.alloc (.cells #[.int .i64 x.f0, .bool x.f1, .int .i64 x.f2.f0, .int .i64 x.f2.f1, .int .i64 x.f2.f2, .int .i64 x.f2.f3, .bool x.f3.f0, .int .i64 x.f3.f1, .int .i64 x.f3.f2, .slice A9 x.f3.f3.length c9] 67)) := ⟨_, rfl⟩
    rw [← hW1] at n1 s1 o1 x1 f1 HS1 HO1 HV1 HBA HB1 HYS b0 b1 b2 b3 b4 b5 b6 b7 b8 b9 c20 c21 c22 c23 c24 c25 c26 c27 c28 c29 z0 z1 z2 z3 z4 z5 z6 z7 z8 z9 ⊢
    obtain ⟨B, hB⟩ : ∃ B, B = W.heap.size := ⟨_, rfl⟩
    rw [← hB] at b0 b1 b2 b3 b4 b5 b6 b7 b8 b9 hne3 hne4 hne5 hne6 ⊢
    clear hW1 hsl hgl hB
    go_region
    change Exit.then _ _ _ _ (((W1.setCell ⟨s, p.toNat, none⟩ (.bool true)).setCells g (p.toNat * 10) (c67 x A9 c9)).drew)
    clear b0 b1 b2 b3 b4 b5 b6 b7 b8 b9 x1 f1 n1 s1 o1 c20 c21 c22 c23 c24 c25 c26 c27 c28 c29 z0 z1 z2 z3 z4 z5 z6 z7 z8 z9
    have HO2 := Kd.S_set HO1.out HYS.out (by decide) p.toNat (.bool true)
    have HV2 := Kd.R_set HV1.out HYS.out (by decide) p.toNat (.bool true)
    obtain ⟨-, -, HO3, hg3⟩ := S_put67 x HO2 HV2 hN p q0 q1
    have HS3 := Kd.R_over' (Kd.R_putn HS1.out p true) (Kd.S_typed HO2) (by decide) hg3
    have hgb : base ≤ g := Kd.S_base HO1.out g (by simp [Value.ownBlock])
    have hsb : base ≤ s := Kd.R_base HS1.out s (by simp [Value.ownBlock])
    have HB2 := HB1.out.setCell hsb (.bool true) (p := ⟨s, p.toNat, none⟩)
    have HB3 := HB2.grown hg3 (Nat.le_trans hbW HB2.size) (fun k hk => by injection hk with hk; omega)
    have HF : ∀ k, k < W.heap.size → k ≠ s → k ≠ g → (((W1.setCell ⟨s, p.toNat, none⟩ (.bool true)).setCells g (p.toNat * 10) (c67 x A9 c9)).drew).heap[k]? = W.heap[k]? := by
      intro k hk h1 h2
      have e1 := HBA.out.block k hk
      have e2 := Below.heap_setCell W1 ⟨s, p.toNat, none⟩ (.bool true) k h1
      have e3 := hg3.block k (Nat.lt_of_lt_of_le hk HB2.size) (fun he => h2 (by injection he))
      have e4 : (((W1.setCell ⟨s, p.toNat, none⟩ (.bool true)).setCells g (p.toNat * 10) (c67 x A9 c9)).drew).heap[k]? = ((W1.setCell ⟨s, p.toNat, none⟩ (.bool true)).setCells g (p.toNat * 10) (c67 x A9 c9)).heap[k]? := (below_drew1 (Below.refl _ _)).block k (Nat.lt_of_lt_of_le hk HB3.size)
      rw [e4, e3, e2, e1]
    have HQ : Aside0 (Put p x s g n cs cg base set out W (.returned (.bool true)) (((W1.setCell ⟨s, p.toNat, none⟩ (.bool true)).setCells g (p.toNat * 10) (c67 x A9 c9)).drew)) := ⟨fun h => absurd ⟨⟨q0, q1⟩, HBB.out⟩ h, fun _ => ⟨rfl, Kd.R_below HS3 (below_drew1 (Below.refl _ _)), Kd.S_below HO3 (below_drew1 (Below.refl _ _)), HF, below_drew1 HB3⟩⟩
    clear HO2 HV2 HO3 hg3 HS3 HB2 HB3 HF
    generalize (((W1.setCell ⟨s, p.toNat, none⟩ (.bool true)).setCells g (p.toNat * 10) (c67 x A9 c9)).drew) = w9 at *
    go_wp2
    go_ret
    exact HQ.out
end Go.Proofs.Ytagdkmcgepidoaa.P
