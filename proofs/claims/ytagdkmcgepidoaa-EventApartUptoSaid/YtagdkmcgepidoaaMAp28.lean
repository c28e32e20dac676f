/- P.eventApart_holds, part 29 of 41: the contracts of the Go functions that the law calls, its own walk, and its plain law, for every input that the statement speaks of. -/
import Derived.Test.YtagdkmcgepidoaaMAp25
import Derived.Test.YtagdkmcgepidoaaMAp18
import Derived.Deep.RegionHeld3
import Derived.Test.YtagdkmcgepidoaaMAp2
set_option linter.unusedVariables false
set_option linter.unusedSimpArgs false
/- E15 -/
namespace Go.Proofs.Ytagdkmcgepidoaa.P
open Go.RowKit Go.Proofs.YtagdkmcgepidoaaW.PrintWords Go.Proofs.YtagdkmcgepidoaaW.PrintLast Go.Proofs.YtagdkmcgepidoaaW.PrintMore
attribute [local go_sem high] eqA33
def areB (x : S38) (y : S76) : Bool := y.f0 == x.f0 && (opSame y.f1 x.f1 && (y.f3 == x.f3 && y.f4 == x.f4))
def areGo (k : Nat) (l0 : List S38) (l1 : List S76) : Nat → Nat → Option Bool
  | 0, _ => some true
  | d + 1, j => if areB (J38 l0 (j : Int)) (J76 l1 (j : Int)) = true then ((larchref05_SameRet.f k (J38 l0 (j : Int)).f2.f0 (J38 l0 (j : Int)).f2.f1 (J38 l0 (j : Int)).f2.f2 (J38 l0 (j : Int)).f2.f3 (J76 l1 (j : Int)).f2.f0 (J76 l1 (j : Int)).f2.f1 (J76 l1 (j : Int)).f2.f2 (J76 l1 (j : Int)).f2.f3).bind fun t => if t = true then areGo k l0 l1 d (j + 1) else none) else none
def larchlaw05_are.f (k : Nat) (l0 : List S38) (l1 : List S76) : Option Bool := if l0.length = l1.length then areGo k l0 l1 l0.length 0 else none
theorem areGo_true (k : Nat) (l0 : List S38) (l1 : List S76) : ∀ d j r, areGo k l0 l1 d j = some r → r = true
  | 0, j, r, h => by simp only [areGo, Option.some.injEq] at h; exact h.symm
  | d + 1, j, r, h => by
    simp only [areGo] at h
    split at h
    · obtain ⟨t, _, h2⟩ := Option.bind_eq_some_iff.mp h
      split at h2
      · exact areGo_true k l0 l1 d (j + 1) r h2
      · cases h2
    · cases h
set_option maxHeartbeats 8000000 in
set_option maxRecDepth 100000 in
theorem larchlaw05_are.calls (k : Nat) (A0 : Option Addr) (c0 : Nat) (l0 : List (S38)) (A1 : Option Addr) (c1 : Nat) (l1 : List (S76)) (r : Bool) (w : World) (hr0 : Kd.C k38 w A0 l0.length l0) (hc0 : l0.length ≤ c0) (hr1 : Kd.C k76 w A1 l1.length l1) (hc1 : l1.length ≤ c1) (h : larchlaw05_are.f k l0 l1 = some r) :
    Calls Try.prog 39 #[.slice A0 l0.length c0, .slice A1 l1.length c1] w fun e w' => e = .returned (.bool r) ∧ Below w.heap.size w w' := by
  have hu38 := Try.underlying38
  have hu76 := Try.underlying76
  have hu36 := Try.underlying36
  have hu33 := Try.underlying33
  have hmx : l0.length ≤ 9223372036854775807 := hr0.2.1
  unfold larchlaw05_are.f at h
  by_cases hl : l0.length = l1.length
  rotate_left
  · rw [if_neg hl] at h; cases h
  rw [if_pos hl] at h
  obtain rfl := areGo_true _ _ _ _ _ _ h
  have hl' : ((l0.length : Int) != (l1.length : Int)) = false := by simp; omega
  have HL := Aside0.mk hl
  have HR := Aside0.mk h
  clear h hl
  go_enter Try.func39, Try.ntmps39
  go_wp2
  go_loopw [5] (fun v5 W => ∃ (j : Nat), v5 = .int .i64 (j : Int) ∧ j ≤ l0.length ∧ Aside0 (areGo k l0 l1 (l0.length - j) j = some true) ∧ Aside0 (Below w.heap.size w W)) (fun v5 _ => l0.length - (intOf v5).toNat)
  case atStart => exact ⟨0, rfl, Nat.zero_le _, HR, ⟨Below.refl _ _⟩⟩
  case round =>
    obtain ⟨j, rfl, hj, HG, HB⟩ := hrel
    by_cases hlt : j < l0.length
    · have hg := HG.out
      rw [show l0.length - j = (l0.length - (j + 1)) + 1 by omega] at hg
      simp only [areGo] at hg
      obtain ⟨x, hx⟩ : ∃ x, x = J38 l0 (j : Int) := ⟨_, rfl⟩
      obtain ⟨y, hy⟩ : ∃ y, y = J76 l1 (j : Int) := ⟨_, rfl⟩
      rw [← hx, ← hy] at hg
      obtain ⟨ad2, A8, c8, ea, y0, y1, y2, y3, y4, y5, y6, y7, y8, y9, y10, hc8, hr8⟩ := at_T38 (Kd.C_below hr0 HB.out) (j : Int) (by omega) (by omega)
      cases ea
      obtain ⟨ad3, B8, d8, ea, z0, z1, z2, z3, z4, z5, z6, z7, z8, z9, z10, hd8, hs8⟩ := at_T76 (Kd.C_below hr1 HB.out) (j : Int) (by omega) (by have := HL.out; omega)
      cases ea
      rw [← hx] at y0 y1 y2 y3 y4 y5 y6 y7 y8 y9 y10 hc8 hr8
      rw [← hy] at z0 z1 z2 z3 z4 z5 z6 z7 z8 z9 z10 hd8 hs8
      simp only [Int.toNat_natCast] at y0 y1 y2 y3 y4 y5 y6 y7 y8 y9 y10 z0 z1 z2 z3 z4 z5 z6 z7 z8 z9 z10
      by_cases hb : areB x y = true
      rotate_left
      · rw [if_neg hb] at hg; cases hg
      rw [if_pos hb] at hg
      obtain ⟨t, ht, hg2⟩ := Option.bind_eq_some_iff.mp hg
      clear hg
      by_cases htt : t = true
      rotate_left
      · rw [if_neg htt] at hg2; cases hg2
      rw [if_pos htt] at hg2
      subst htt
      have HS := Aside0.mk ht
      have HG2 := Aside0.mk hg2
      unfold areB opSame at hb
      simp only [Bool.and_eq_true, beq_iff_eq] at hb
      obtain ⟨b0, ⟨b1, b2, b3, b4⟩, b9, b10⟩ := hb
      rw [b0] at z0
      rw [b1] at z1
      rw [b2] at z2
      rw [b3] at z3
      rw [b4] at z4
      rw [b9] at z9
      rw [b10] at z10
      clear b0 b1 b2 b3 b4 b9 b10 hx hy ht hg2 HG
      have hlt1 : (j : Int) < (l0.length : Int) := by omega
      have hlt2 : (j : Int) < (l1.length : Int) := by have := HL.out; omega
      have hj0 : (0 : Int) ≤ (j : Int) := by omega
      have hr9 : Kd.C k70 wr.drew A8 x.f2.f3.length x.f2.f3 := Kd.C_below hr8 (below_drew1 (Below.refl _ _))
      have hs9 : Kd.C k70 wr.drew B8 y.f2.f3.length y.f2.f3 := Kd.C_below hs8 (below_drew1 (Below.refl _ _))
      have dy0 : wr.drew.cell? (ad2.add (j * 11)) = some (.int .i64 x.f0) := y0
      have dy1 : wr.drew.cell? ⟨(ad2.add (j * 11)).block, (ad2.add (j * 11)).off + 1, none⟩ = some (.int .i64 x.f1.f0) := y1
      have dy2 : wr.drew.cell? ⟨(ad2.add (j * 11)).block, (ad2.add (j * 11)).off + 2, none⟩ = some (.int .i64 x.f1.f1) := y2
      have dy3 : wr.drew.cell? ⟨(ad2.add (j * 11)).block, (ad2.add (j * 11)).off + 3, none⟩ = some (.int .i64 x.f1.f2) := y3
      have dy4 : wr.drew.cell? ⟨(ad2.add (j * 11)).block, (ad2.add (j * 11)).off + 4, none⟩ = some (.int .i64 x.f1.f3) := y4
      have dy5 : wr.drew.cell? ⟨(ad2.add (j * 11)).block, (ad2.add (j * 11)).off + 5, none⟩ = some (.bool x.f2.f0) := y5
      have dy6 : wr.drew.cell? ⟨(ad2.add (j * 11)).block, (ad2.add (j * 11)).off + 6, none⟩ = some (.int .i64 x.f2.f1) := y6
      have dy7 : wr.drew.cell? ⟨(ad2.add (j * 11)).block, (ad2.add (j * 11)).off + 7, none⟩ = some (.int .i64 x.f2.f2) := y7
      have dy8 : wr.drew.cell? ⟨(ad2.add (j * 11)).block, (ad2.add (j * 11)).off + 8, none⟩ = some (.slice A8 x.f2.f3.length c8) := y8
      have dy9 : wr.drew.cell? ⟨(ad2.add (j * 11)).block, (ad2.add (j * 11)).off + 9, none⟩ = some (.int .i64 x.f3) := y9
      have dy10 : wr.drew.cell? ⟨(ad2.add (j * 11)).block, (ad2.add (j * 11)).off + 10, none⟩ = some (.int .i64 x.f4) := y10
      have dz0 : wr.drew.cell? (ad3.add (j * 11)) = some (.int .i64 x.f0) := z0
      have dz1 : wr.drew.cell? ⟨(ad3.add (j * 11)).block, (ad3.add (j * 11)).off + 1, none⟩ = some (.int .i64 x.f1.f0) := z1
      have dz2 : wr.drew.cell? ⟨(ad3.add (j * 11)).block, (ad3.add (j * 11)).off + 2, none⟩ = some (.int .i64 x.f1.f1) := z2
      have dz3 : wr.drew.cell? ⟨(ad3.add (j * 11)).block, (ad3.add (j * 11)).off + 3, none⟩ = some (.int .i64 x.f1.f2) := z3
      have dz4 : wr.drew.cell? ⟨(ad3.add (j * 11)).block, (ad3.add (j * 11)).off + 4, none⟩ = some (.int .i64 x.f1.f3) := z4
      have dz5 : wr.drew.cell? ⟨(ad3.add (j * 11)).block, (ad3.add (j * 11)).off + 5, none⟩ = some (.bool y.f2.f0) := z5
      have dz6 : wr.drew.cell? ⟨(ad3.add (j * 11)).block, (ad3.add (j * 11)).off + 6, none⟩ = some (.int .i64 y.f2.f1) := z6
      have dz7 : wr.drew.cell? ⟨(ad3.add (j * 11)).block, (ad3.add (j * 11)).off + 7, none⟩ = some (.int .i64 y.f2.f2) := z7
      have dz8 : wr.drew.cell? ⟨(ad3.add (j * 11)).block, (ad3.add (j * 11)).off + 8, none⟩ = some (.slice B8 y.f2.f3.length d8) := z8
      have dz9 : wr.drew.cell? ⟨(ad3.add (j * 11)).block, (ad3.add (j * 11)).off + 9, none⟩ = some (.int .i64 x.f3) := z9
      have dz10 : wr.drew.cell? ⟨(ad3.add (j * 11)).block, (ad3.add (j * 11)).off + 10, none⟩ = some (.int .i64 x.f4) := z10
      go_wp2
      go_region_held3 (fun w' => w'.cell? (ad2.add (j * 11)) = some (.int .i64 x.f0) ∧ w'.cell? ⟨(ad2.add (j * 11)).block, (ad2.add (j * 11)).off + 1, none⟩ = some (.int .i64 x.f1.f0) ∧ w'.cell? ⟨(ad2.add (j * 11)).block, (ad2.add (j * 11)).off + 2, none⟩ = some (.int .i64 x.f1.f1) ∧ w'.cell? ⟨(ad2.add (j * 11)).block, (ad2.add (j * 11)).off + 3, none⟩ = some (.int .i64 x.f1.f2) ∧ w'.cell? ⟨(ad2.add (j * 11)).block, (ad2.add (j * 11)).off + 4, none⟩ = some (.int .i64 x.f1.f3) ∧ w'.cell? ⟨(ad2.add (j * 11)).block, (ad2.add (j * 11)).off + 5, none⟩ = some (.bool x.f2.f0) ∧ w'.cell? ⟨(ad2.add (j * 11)).block, (ad2.add (j * 11)).off + 6, none⟩ = some (.int .i64 x.f2.f1) ∧ w'.cell? ⟨(ad2.add (j * 11)).block, (ad2.add (j * 11)).off + 7, none⟩ = some (.int .i64 x.f2.f2) ∧ w'.cell? ⟨(ad2.add (j * 11)).block, (ad2.add (j * 11)).off + 8, none⟩ = some (.slice A8 x.f2.f3.length c8) ∧ w'.cell? ⟨(ad2.add (j * 11)).block, (ad2.add (j * 11)).off + 9, none⟩ = some (.int .i64 x.f3) ∧ w'.cell? ⟨(ad2.add (j * 11)).block, (ad2.add (j * 11)).off + 10, none⟩ = some (.int .i64 x.f4) ∧ w'.cell? (ad3.add (j * 11)) = some (.int .i64 x.f0) ∧ w'.cell? ⟨(ad3.add (j * 11)).block, (ad3.add (j * 11)).off + 1, none⟩ = some (.int .i64 x.f1.f0) ∧ w'.cell? ⟨(ad3.add (j * 11)).block, (ad3.add (j * 11)).off + 2, none⟩ = some (.int .i64 x.f1.f1) ∧ w'.cell? ⟨(ad3.add (j * 11)).block, (ad3.add (j * 11)).off + 3, none⟩ = some (.int .i64 x.f1.f2) ∧ w'.cell? ⟨(ad3.add (j * 11)).block, (ad3.add (j * 11)).off + 4, none⟩ = some (.int .i64 x.f1.f3) ∧ w'.cell? ⟨(ad3.add (j * 11)).block, (ad3.add (j * 11)).off + 5, none⟩ = some (.bool y.f2.f0) ∧ w'.cell? ⟨(ad3.add (j * 11)).block, (ad3.add (j * 11)).off + 6, none⟩ = some (.int .i64 y.f2.f1) ∧ w'.cell? ⟨(ad3.add (j * 11)).block, (ad3.add (j * 11)).off + 7, none⟩ = some (.int .i64 y.f2.f2) ∧ w'.cell? ⟨(ad3.add (j * 11)).block, (ad3.add (j * 11)).off + 8, none⟩ = some (.slice B8 y.f2.f3.length d8) ∧ w'.cell? ⟨(ad3.add (j * 11)).block, (ad3.add (j * 11)).off + 9, none⟩ = some (.int .i64 x.f3) ∧ w'.cell? ⟨(ad3.add (j * 11)).block, (ad3.add (j * 11)).off + 10, none⟩ = some (.int .i64 x.f4)) (first | exact ⟨y0, y1, y2, y3, y4, y5, y6, y7, y8, y9, y10, z0, z1, z2, z3, z4, z5, z6, z7, z8, z9, z10⟩ | exact ⟨ey0, ey1, ey2, ey3, ey4, ey5, ey6, ey7, ey8, ey9, ey10, ez0, ez1, ez2, ez3, ez4, ez5, ez6, ez7, ez8, ez9, ez10⟩) (first
        | (go_at_call 63; refine (larchref05_SameRet.calls k x.f2.f0 x.f2.f1 x.f2.f2 A8 c8 x.f2.f3 y.f2.f0 y.f2.f1 y.f2.f2 B8 d8 y.f2.f3 true _ hr9 hc8 hs9 hd8 HS.out).mono ?_; rintro e w3 ⟨rfl, hb⟩; have HB3 := Aside0.mk (below_step (below_drew1 HB.out) hb); have ey0 := pw_cell_below hb dy0; have ey1 := pw_cell_below hb dy1; have ey2 := pw_cell_below hb dy2; have ey3 := pw_cell_below hb dy3; have ey4 := pw_cell_below hb dy4; have ey5 := pw_cell_below hb dy5; have ey6 := pw_cell_below hb dy6; have ey7 := pw_cell_below hb dy7; have ey8 := pw_cell_below hb dy8; have ey9 := pw_cell_below hb dy9; have ey10 := pw_cell_below hb dy10; have ez0 := pw_cell_below hb dz0; have ez1 := pw_cell_below hb dz1; have ez2 := pw_cell_below hb dz2; have ez3 := pw_cell_below hb dz3; have ez4 := pw_cell_below hb dz4; have ez5 := pw_cell_below hb dz5; have ez6 := pw_cell_below hb dz6; have ez7 := pw_cell_below hb dz7; have ez8 := pw_cell_below hb dz8; have ez9 := pw_cell_below hb dz9; have ez10 := pw_cell_below hb dz10; clear hb))
      go_wp2
      go_roundw
      case rel => exact ⟨j + 1, by go_num, by omega, HG2, HB3⟩
      case measure => simp [intOf]; omega
    · go_wp2
      go_ret
      exact ⟨rfl, HB.out⟩
end Go.Proofs.Ytagdkmcgepidoaa.P
