/- P.eventCalls_holds, part 30 of 31: the contracts of the Go functions that the law calls, its own walk, and its plain law, for every input that the statement speaks of. -/
import Derived.Test.YtagdkmcgepidoaaMCa15
import Derived.Test.YtagdkmcgepidoaaMCa28
set_option linter.unusedVariables false
set_option linter.unusedSimpArgs false
/- RCalls -/
namespace Go.Proofs.Ytagdkmcgepidoaa.P
open Go.ChangeShapes Go.WideShapes Go.ChangeAt Go.RowKit Go.Deep Go.Joins Go.Proofs.YtagdkmcgepidoaaW.PrintWords Go.Proofs.YtagdkmcgepidoaaW.PrintLast Go.Proofs.YtagdkmcgepidoaaW.PrintMore
def EventCallsPure : Prop := ∀ (l0 : List S67) (l1 : List S76), l0.length ≤ 1048576 → (∀ e ∈ l0, e.f3.f3.length ≤ 1048576) → l1.length ≤ 1048576 → (∀ e ∈ l1, e.f2.f3.length ≤ 1048576) → ∃ k, larchlaw05_EventCalls.f k l0 l1 = some true
set_option maxRecDepth 100000 in
theorem EventCalls_contract (pure : EventCallsPure) (H : Type) (enc : TypeId × Value → H) (W : World) (base : Nat) (args : Array Value) (ds gs : List (DataW H)) (before : List MemPlace)
    (hval : ∀ (j : Nat) t v, Try.f8.params[j]? = some t → args[j]? = some v → Value.okWide Try.prog W .any base t v)
    (hW : DataW.Whole enc Try.prog Try.f8.params.toList Rows.eventCallsSpec.vars false W args.toList ds gs before) (hk : Rows.uptoSmall H (ds ++ gs) = true) :
    Calls Try.prog 8 args W fun e W' => ∃ v, e = .returned v ∧ Rows.eventCallsSpec.post enc Try.prog Try.f8 false true false false W args v W' := by
  have hW' := hW
  obtain ⟨p, q, hA0, hV, rfl, hfz, hnd⟩ := hW
  have hA : DataW.TrodAll enc Try.prog W 0 (fun _ => true) true Try.f8.params.toList args.toList ds p := hA0
  rw [Try.params8] at hA hval
  obtain ⟨v0, vs0, d0, ds0, p0, q0, ha0_, rfl, rfl, h0, r0⟩ := trodAll_cons hA
  obtain ⟨v1, vs1, d1, ds1, p1, q1, ha1_, rfl, rfl, h1, r1⟩ := trodAll_cons r0
  obtain ⟨rfl, rfl, rfl⟩ := trodAll_nil r1
  obtain rfl : args = #[v0, v1] := by cases args; simp_all
  obtain ⟨rfl, rfl⟩ := trodVars_none hV
  have lt0 : ∀ x ∈ p0, x.block < W.heap.size := by obtain ⟨m, hm⟩ := h0; exact DataW.trod_lt m _ _ _ hm
  have k0 := h0
  have lt1 : ∀ x ∈ p1, x.block < W.heap.size := by obtain ⟨m, hm⟩ := h1; exact DataW.trod_lt m _ _ _ hm
  have k1 := h1
  have hB : Rows.uptoBulkAll (H := H) ([d0, d1] ++ []) ≤ 1048576 := of_decide_eq_true hk
  have hcl0 : v0.cells.toList = [v0] := by obtain ⟨_, _, _, e⟩ := okWide_slice Try.underlying22 (hval 0 _ v0 rfl rfl); rw [e]; rfl
  obtain ⟨m0, hm0⟩ := h0
  rw [hcl0] at hm0
  obtain ⟨A0, cap0, l0, rfl, hc0, hC0, hb0, hp0⟩ := seen_events hm0
  have hcl1 : v1.cells.toList = [v1] := by obtain ⟨_, _, _, e⟩ := okWide_slice Try.underlying56 (hval 1 _ v1 rfl rfl); rw [e]; rfl
  obtain ⟨m1, hm1⟩ := h1
  rw [hcl1] at hm1
  obtain ⟨A1, cap1, l1, rfl, hc1, hC1, hb1, hp1⟩ := seen_calls hm1
  have hb0 := show l0.length ≤ Rows.uptoBulk d0 from hb0
  have hb1 := show l1.length ≤ Rows.uptoBulk d1 from hb1
  simp only [List.cons_append, List.nil_append, Rows.uptoBulkAll, Rows.uptoBulk] at hB
  obtain ⟨k, hkf⟩ := pure l0 l1 (by omega) (fun e he => by have := show e.f3.f3.length ≤ Rows.uptoBulk d0 from hp0 e he; omega) (by omega) (fun e he => by have := show e.f2.f3.length ≤ Rows.uptoBulk d1 from hp1 e he; omega)
  clear hA0 hval
  refine (larchlaw05_EventCalls.calls k A0 cap0 l0 A1 cap1 l1 true W hC0 hc0 hC1 hc1 hkf).mono fun e W' ⟨he, bel⟩ => ?_
  subst he
  exact ⟨_, rfl, _, _, _, [], _, [], hW', trodAll_mk1 (shut_bool Try.underlying4 _), (trodAll_cons_mk (Below.trod laidOut (by kernel_rfl) (of_decide_eq_true (by kernel_rfl)) k0 bel lt0) (trodAll_cons_mk (Below.trod laidOut (by kernel_rfl) (of_decide_eq_true (by kernel_rfl)) k1 bel lt1) trodAll_mk0)), rfl, bel.frame _, fun h => by cases h⟩
set_option maxRecDepth 100000 in
theorem EventCalls_lifted (pure : EventCallsPure) (os : Os) (started : os.Started) (H : Type) (enc : TypeId × Value → H) (F : Stop.Interp) :
    ReturnsInHanded {} Try.checked os 8 .any ((Rows.OpenSpec.upto Rows.eventCallsSpec).pre6 enc Try.prog Try.f8 Rows.eventCallsUptoRow.domain false) (((Rows.OpenSpec.upto Rows.eventCallsSpec).at F).post enc Try.prog Try.f8 false true false false) := by
  refine returnsInHanded_of_cond (C := Try.checked) (s := Rows.OpenSpec.upto Rows.eventCallsSpec) (k := Rows.uptoSmall) rfl own started (by kernel_rfl) Try.func8
    (OpenSpec.witness (enc := enc) (C := Try.checked) (s := Rows.OpenSpec.upto Rows.eventCallsSpec) (k := Rows.uptoSmall) rfl false ⟨#[], #[.slice none 0 0, .slice none 0 0], []⟩ 8 (by kernel_rfl) (by kernel_rfl) (by kernel_rfl)
      (x := ([.nil, .nil], [], [])) (by kernel_rfl) rfl (by kernel_rfl)) ?_
  intro W base args ds gs before hval hW _ hk _
  exact EventCalls_contract pure H enc W base args ds gs before hval hW hk
theorem EventCalls_of (pure : EventCallsPure) : Rows.EventCallsUptoSaid :=
  OpenClaim.holds_of_cond 8 Try.f8 rfl rfl rfl rfl rfl rfl rfl ⟨rfl, rfl, rfl, rfl, rfl⟩ rfl rfl rfl rfl rfl (by kernel_rfl) Try.func8 (by kernel_rfl)
    (of_decide_eq_true (by kernel_rfl)) (by unfold Func.isWrapper; first | (rw [if_pos (by decide +kernel)]; kernel_rfl) | (rw [if_neg (by decide +kernel)]; exact ⟨rfl, rfl⟩))
    (fun os started H enc _ F => EventCalls_lifted pure os started H enc F)
end Go.Proofs.Ytagdkmcgepidoaa.P
