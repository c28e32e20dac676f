/- P.eventApart_holds, part 17 of 41: the contracts of the Go functions that the law calls, its own walk, and its plain law, for every input that the statement speaks of. -/
import Derived.Test.YtagdkmcgepidoaaMAp15
import Derived.Test.YtagdkmcgepidoaaMAp2
import Derived.Test.YtagdkmcgepidoaaMAp14
set_option linter.unusedVariables false
set_option linter.unusedSimpArgs false
/- E18 -/
namespace Go.Proofs.Ytagdkmcgepidoaa.P
open Go.RowKit Go.Proofs.YtagdkmcgepidoaaW.PrintWords Go.Proofs.YtagdkmcgepidoaaW.PrintLast Go.Proofs.YtagdkmcgepidoaaW.PrintMore
theorem shp67_len {ys xs : List S67} (h : shp67 ys = shp67 xs) : ys.length = xs.length := by
  have := congrArg List.length h
  simpa [shp67] using this
theorem shp38_len {ys xs : List S38} (h : shp38 ys = shp38 xs) : ys.length = xs.length := by
  have := congrArg List.length h
  simpa [shp38] using this
theorem shp67_at {ys xs : List S67} (h : shp67 ys = shp67 xs) (j : Nat) : (J67 ys (j : Int)).f3.f3.length = (J67 xs (j : Int)).f3.f3.length := by
  have h2 : (ys[j]?).map (fun e => e.f3.f3.length) = (xs[j]?).map (fun e => e.f3.f3.length) := by
    rw [← List.getElem?_map, ← List.getElem?_map]
    exact congrArg (fun l => l[j]?) h
  unfold J67
  rw [Int.toNat_natCast, List.getD_eq_getElem?_getD, List.getD_eq_getElem?_getD]
  cases h1 : ys[j]? <;> cases h3 : xs[j]? <;> rw [h1, h3] at h2 <;> simp at h2 ⊢
  exact h2
theorem shp38_at {ys xs : List S38} (h : shp38 ys = shp38 xs) (j : Nat) : (J38 ys (j : Int)).f2.f3.length = (J38 xs (j : Int)).f2.f3.length := by
  have h2 : (ys[j]?).map (fun e => e.f2.f3.length) = (xs[j]?).map (fun e => e.f2.f3.length) := by
    rw [← List.getElem?_map, ← List.getElem?_map]
    exact congrArg (fun l => l[j]?) h
  unfold J38
  rw [Int.toNat_natCast, List.getD_eq_getElem?_getD, List.getD_eq_getElem?_getD]
  cases h1 : ys[j]? <;> cases h3 : xs[j]? <;> rw [h1, h3] at h2 <;> simp at h2 ⊢
  exact h2
set_option maxHeartbeats 2000000 in
set_option maxRecDepth 100000 in
theorem larchlaw05_spoil_calls (v : Value) (xs : List S67) (base : Nat) (ok : Nat → Prop) (w : World) (h : Kd.S k67 67 w base ok v xs) :
    Calls Try.prog 44 #[v] w fun e w' => e = .returned (.tuple #[]) ∧ ∃ ys, shp67 ys = shp67 xs ∧ Kd.S k67 67 w' base ok v ys ∧ Chg w w' ok := by
  have hu67 := Try.underlying67
  have hu36 := Try.underlying36
  have hu33 := Try.underlying33
  obtain ⟨A, c, rfl⟩ := Kd.S_slice h
  have hmx : xs.length ≤ 9223372036854775807 := (Kd.S_reads' h).2.2.2.1
  have H0 := Aside0.mk h
  clear h
  go_enter Try.func44, Try.ntmps44
  go_wp2
  go_loopw [2] (fun v2 W => ∃ (j : Nat) (ys : List S67), v2 = .int .i64 (j : Int) ∧ j ≤ xs.length ∧ Aside0 (shp67 ys = shp67 xs) ∧ Aside0 (Kd.S k67 67 W base ok (.slice A xs.length c) ys) ∧ Aside0 (Chg w W ok)) (fun v2 _ => xs.length - (intOf v2).toNat)
  case atStart => exact ⟨0, xs, rfl, Nat.zero_le _, ⟨rfl⟩, H0, ⟨Chg.refl _ _⟩⟩
  case round =>
    clear H0
    obtain ⟨j, ys, rfl, hj, HX, HS, HC⟩ := hrel
    by_cases hlt : j < xs.length
    · obtain ⟨g, cg, ea, -⟩ := Kd.S_form HS.out (by rw [shp67_len HX.out]; omega)
      injection ea with ea _ _
      subst ea
      obtain ⟨A9, c9, y4, f4, -, hpl, -⟩ := ev_row HS.out j hlt
      rw [shp67_at HX.out] at hpl
      obtain ⟨np, hnp⟩ : ∃ np, np = (J67 xs (j : Int)).f3.f3.length := ⟨_, rfl⟩
      rw [← hnp] at hpl
      have HNP := Aside0.mk hnp
      clear hnp
      obtain ⟨zf, hzf⟩ := Classical.axiomOfChoice (fun u : Int => ev_flat HS.out j hlt u)
      have HZ := Aside0.mk hzf
      have hog : ok g := (Kd.S_R HS.out).1 g (by simp [Value.ownBlock])
      have b1 : (0 : Int) ≤ (j : Int) := by omega
      have b2 : (j : Int) < (xs.length : Int) := by omega
      clear hzf
      go_wp2
      go_loopw [3] (fun v3 W => ∃ (m : Nat) (zs : List S67), v3 = .int .i64 (m : Int) ∧ m ≤ np ∧ Aside0 (shp67 zs = shp67 xs) ∧ Aside0 (Kd.S k67 67 W base ok (.slice (some ⟨g, 0, none⟩) xs.length c) zs) ∧ Aside0 (Chg w W ok)) (fun v3 _ => np - (intOf v3).toNat)
      case atStart => exact ⟨0, zf _, rfl, Nat.zero_le _, ⟨(HZ.out _).1.trans HX.out⟩, ⟨(HZ.out _).2⟩, ⟨HC.out.trans (Chg.set _ hog _)⟩⟩
      case round =>
        clear HZ HS HC HX y4 f4
        obtain ⟨m, zs, rfl, hm, HX, HS, HC⟩ := hrel
        obtain ⟨A9, c9, -, -, y9, -, hp⟩ := ev_row HS.out j hlt
        rw [shp67_at HX.out, ← HNP.out] at y9 hp
        by_cases hlm : m < np
        · obtain ⟨g9, rfl, ho9, ⟨a, ca⟩, fa, hput⟩ := hp m hlm
          obtain ⟨qs, hq1, hq2⟩ := hput (-3)
          have HQ1 := Aside0.mk hq1
          have HQ2 := Aside0.mk hq2
          have d1 : (0 : Int) ≤ (m : Int) := by omega
          have d2 : (m : Int) < (np : Int) := by omega
          clear hput hp hq1 hq2
          go_wp2
          go_roundw
          case rel => exact ⟨m + 1, qs, by go_num, by omega, ⟨HQ1.out.trans HX.out⟩, HQ2, ⟨HC.out.trans (Chg.set _ ho9 _)⟩⟩
          case measure => simp [intOf]; omega
        · obtain rfl : m = np := by omega
          clear hp
          go_wp2
          go_roundw
          case rel => exact ⟨j + 1, zs, by go_num, by omega, HX, HS, HC⟩
          case measure => simp [intOf]; omega
    · obtain rfl : j = xs.length := by omega
      go_wp2
      (try simp only [Exit.inBlock, Exit.then])
      refine bodyPost_end (results_none rfl _ _ _) rfl ?_
      exact ⟨rfl, ys, HX.out, HS.out, HC.out⟩
end Go.Proofs.Ytagdkmcgepidoaa.P
