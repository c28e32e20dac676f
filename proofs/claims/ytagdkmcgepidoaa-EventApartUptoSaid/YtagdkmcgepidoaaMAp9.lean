/- P.eventApart_holds, part 10 of 41: the contracts of the Go functions that the law calls, its own walk, and its plain law, for every input that the statement speaks of. -/
import Derived.Test.YtagdkmcgepidoaaMAp7
set_option linter.unusedVariables false
set_option linter.unusedSimpArgs false
/- EB -/
namespace Go.Proofs.Ytagdkmcgepidoaa.P
open Go.RowKit Go.Proofs.YtagdkmcgepidoaaW.PrintWords Go.Proofs.YtagdkmcgepidoaaW.PrintLast Go.Proofs.YtagdkmcgepidoaaW.PrintMore
theorem S_ret38 {W : World} {base N g n cap : Nat} {xs : List S38} {A : Option Addr} {m : Nat} (ret : S36) (h : Kd.S k38 38 W base (fun k => k < N) (.slice (some ⟨g, 0, none⟩) n cap) xs) (hv : k70.R 70 W N (fun _ => True) (.slice A ret.f3.length m) ret.f3) (hN : base ≤ N) (i : Int) (h0 : 0 ≤ i) (h1 : i < n) (tw : Int) :
    (∀ q, 5 ≤ q → q < 9 ∨ q = 10 → (∃ u, W.cell? ⟨g, i.toNat * 11 + q, none⟩ = some u) ∧ W.frozen? ⟨g, i.toNat * 11 + q, none⟩ = false) ∧
    Kd.S k38 38 ((W.setCells g (i.toNat * 11 + 5) [.bool ret.f0, .int .i64 ret.f1, .int .i64 ret.f2, .slice A ret.f3.length m]).setCell ⟨g, i.toNat * 11 + 10, none⟩ (.int .i64 tw)) base (fun _ => True) (.slice (some ⟨g, 0, none⟩) n cap) (xs.set i.toNat ⟨(J38 xs i).f0, (J38 xs i).f1, ret, (J38 xs i).f3, tw⟩) ∧ W.grownBy ((W.setCells g (i.toNat * 11 + 5) [.bool ret.f0, .int .i64 ret.f1, .int .i64 ret.f2, .slice A ret.f3.length m]).setCell ⟨g, i.toNat * 11 + 10, none⟩ (.int .i64 tw)) (some g) := by
  obtain ⟨oki, c, hcl, hM, hcc, hfr, hoki, hH⟩ := Kd.S_elem h z38 i h0 h1
  obtain ⟨v8, rfl, g8⟩ := k38_openM hM
  have hg : g < N := (Kd.S_R h).1 g (by simp [Value.ownBlock])
  have hn := (Kd.S_reads' h).1
  refine ⟨fun q hq hq2 => ⟨?_, hfr q⟩, ?_⟩
  · have : q = 5 ∨ q = 6 ∨ q = 7 ∨ q = 8 ∨ q = 10 := by omega
    rcases this with rfl | rfl | rfl | rfl | rfl <;> exact ⟨_, hcc _ _ rfl⟩
  obtain ⟨s1, hg1⟩ := Kd.S_seg (d := k38) (okg := fun k => N ≤ k) (ok := fun _ => True) (Kd.H_mono hH (fun k hk => ⟨trivial, by omega⟩)) h0 h1 (seg := [.bool ret.f0, .int .i64 ret.f1, .int .i64 ret.f2, .slice A ret.f3.length m]) (j := 5) (show 9 ≤ 11 by decide)
    (x' := ⟨(J38 xs i).f0, (J38 xs i).f1, ret, (J38 xs i).f3, (J38 xs i).f4⟩) (okp := fun k => N ≤ k) (k38_mkM W base _ (⟨(J38 xs i).f0, (J38 xs i).f1, ret, (J38 xs i).f3, (J38 xs i).f4⟩ : S38) (Kd.R_lower (Kd.R_mono (Kd.R_bound hv) (fun k hk => hk.2.1)) hN)) (fun k hk => .inr hk) (fun k hk => ⟨trivial, by omega⟩)
  obtain ⟨oki2, c2, hcl2, hM2, hcc2, hfr2, hoki2, hH2⟩ := Kd.S_elem s1 z38 i h0 h1
  obtain ⟨v82, rfl, g82⟩ := k38_openM hM2
  have hx : (xs.set i.toNat (⟨(J38 xs i).f0, (J38 xs i).f1, ret, (J38 xs i).f3, (J38 xs i).f4⟩ : S38)).getD i.toNat z38 = ⟨(J38 xs i).f0, (J38 xs i).f1, ret, (J38 xs i).f3, (J38 xs i).f4⟩ := by
    rw [List.getD_eq_getElem?_getD, List.getElem?_set_self (by omega)]
    rfl
  rw [hx] at g82 hM2 hH2 hcc2
  obtain ⟨s2, hg2⟩ := Kd.S_seg0 (d := k38) hH2 h0 h1 (seg := [.int .i64 tw]) (j := 10) (show 11 ≤ 11 by decide)
    (x' := ⟨(J38 xs i).f0, (J38 xs i).f1, ret, (J38 xs i).f3, tw⟩) (okp := oki2) (k38_mkM _ base oki2 (⟨(J38 xs i).f0, (J38 xs i).f1, ret, (J38 xs i).f3, tw⟩ : S38) g82) (fun k hk => hk)
  rw [List.set_set] at s2
  exact ⟨s2, World.grownBy.trans hg1 hg2⟩
theorem field67 (w : World) (a b c d e f g h i j : Value) : (Instr.field 67 (.agg #[a, b, c, d, e, f, g, h, i, j]) 3).run Try.prog w = .ok (.agg #[g, h, i, j]) w := by
  have hu67 := Try.underlying67
  have hu36 := Try.underlying36
  unfold Instr.field
  go_simp
  rfl
end Go.Proofs.Ytagdkmcgepidoaa.P
