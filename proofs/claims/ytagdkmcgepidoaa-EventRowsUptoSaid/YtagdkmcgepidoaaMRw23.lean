/- P.eventRows_holds, part 24 of 25: the contracts of the Go functions that the law calls, its own walk, and its plain law, for every input that the statement speaks of. -/
import Derived.Test.YtagdkmcgepidoaaMRw13
import Derived.Test.YtagdkmcgepidoaaMRw21
set_option linter.unusedVariables false
set_option linter.unusedSimpArgs false
/- RRowsLaw -/
namespace Go.Proofs.Ytagdkmcgepidoaa.P
open Go.ChangeShapes Go.WideShapes Go.ChangeAt Go.RowKit Go.Deep Go.Joins Go.Proofs.YtagdkmcgepidoaaW.PrintWords Go.Proofs.YtagdkmcgepidoaaW.PrintLast Go.Proofs.YtagdkmcgepidoaaW.PrintMore
def EventRowsPure : Prop := ∀ (l0 : List S67), l0.length ≤ 1048576 → (∀ e ∈ l0, e.f3.f3.length ≤ 1048576) → ∃ k, larchlaw05_EventRows.f k l0 = some true
set_option maxRecDepth 100000 in
theorem EventRows_contract (pure : EventRowsPure) (H : Type) (enc : TypeId × Value → H) (W : World) (base : Nat) (args : Array Value) (ds gs : List (DataW H)) (before : List MemPlace)
    (hval : ∀ (j : Nat) t v, Try.f9.params[j]? = some t → args[j]? = some v → Value.okWide Try.prog W .any base t v)
    (hW : DataW.Whole enc Try.prog Try.f9.params.toList Rows.eventRowsSpec.vars false W args.toList ds gs before) (hk : Rows.uptoSmall H (ds ++ gs) = true) :
    Calls Try.prog 9 args W fun e W' => ∃ v, e = .returned v ∧ Rows.eventRowsSpec.post enc Try.prog Try.f9 false true false false W args v W' := by
  have hW' := hW
  obtain ⟨p, q, hA0, hV, rfl, hfz, hnd⟩ := hW
  have hA : DataW.TrodAll enc Try.prog W 0 (fun _ => true) true Try.f9.params.toList args.toList ds p := hA0
  rw [Try.params9] at hA hval
  obtain ⟨v0, vs0, d0, ds0, p0, q0, ha0_, rfl, rfl, h0, r0⟩ := trodAll_cons hA
  obtain ⟨rfl, rfl, rfl⟩ := trodAll_nil r0
  obtain rfl : args = #[v0] := by cases args; simp_all
  obtain ⟨rfl, rfl⟩ := trodVars_none hV
  have lt0 : ∀ x ∈ p0, x.block < W.heap.size := by obtain ⟨m, hm⟩ := h0; exact DataW.trod_lt m _ _ _ hm
  have k0 := h0
  have hB : Rows.uptoBulkAll (H := H) ([d0] ++ []) ≤ 1048576 := of_decide_eq_true hk
  have hcl0 : v0.cells.toList = [v0] := by obtain ⟨_, _, _, e⟩ := okWide_slice Try.underlying22 (hval 0 _ v0 rfl rfl); rw [e]; rfl
  obtain ⟨m0, hm0⟩ := h0
  rw [hcl0] at hm0
  obtain ⟨A0, cap0, l0, rfl, hc0, hC0, hb0, hp0⟩ := seen_events hm0
  have hb0 := show l0.length ≤ Rows.uptoBulk d0 from hb0
  simp only [List.cons_append, List.nil_append, Rows.uptoBulkAll, Rows.uptoBulk] at hB
  obtain ⟨k, hkf⟩ := pure l0 (by omega) (fun e he => by have := show e.f3.f3.length ≤ Rows.uptoBulk d0 from hp0 e he; omega)
  clear hA0 hval
  refine (larchlaw05_EventRows.calls k A0 cap0 l0 true W hC0 hc0 hkf).mono fun e W' ⟨he, bel⟩ => ?_
  subst he
  exact ⟨_, rfl, _, _, _, [], _, [], hW', trodAll_mk1 (shut_bool Try.underlying4 _), (trodAll_cons_mk (Below.trod laidOut (by kernel_rfl) (of_decide_eq_true (by kernel_rfl)) k0 bel lt0) trodAll_mk0), rfl, bel.frame _, fun h => by cases h⟩
set_option maxRecDepth 100000 in
theorem EventRows_lifted (pure : EventRowsPure) (os : Os) (started : os.Started) (H : Type) (enc : TypeId × Value → H) (F : Stop.Interp) :
    ReturnsInHanded {} Try.checked os 9 .any ((Rows.OpenSpec.upto Rows.eventRowsSpec).pre6 enc Try.prog Try.f9 Rows.eventRowsUptoRow.domain false) (((Rows.OpenSpec.upto Rows.eventRowsSpec).at F).post enc Try.prog Try.f9 false true false false) := by
  refine returnsInHanded_of_cond (C := Try.checked) (s := Rows.OpenSpec.upto Rows.eventRowsSpec) (k := Rows.uptoSmall) rfl own started (by kernel_rfl) Try.func9
    (OpenSpec.witness (enc := enc) (C := Try.checked) (s := Rows.OpenSpec.upto Rows.eventRowsSpec) (k := Rows.uptoSmall) rfl false ⟨#[], #[.slice none 0 0], []⟩ 8 (by kernel_rfl) (by kernel_rfl) (by kernel_rfl)
      (x := ([.nil], [], [])) (by kernel_rfl) rfl (by kernel_rfl)) ?_
  intro W base args ds gs before hval hW _ hk _
  exact EventRows_contract pure H enc W base args ds gs before hval hW hk
theorem EventRows_of (pure : EventRowsPure) : Rows.EventRowsUptoSaid :=
  OpenClaim.holds_of_cond 9 Try.f9 rfl rfl rfl rfl rfl rfl rfl ⟨rfl, rfl, rfl, rfl, rfl⟩ rfl rfl rfl rfl rfl (by kernel_rfl) Try.func9 (by kernel_rfl)
    (of_decide_eq_true (by kernel_rfl)) (by unfold Func.isWrapper; first | (rw [if_pos (by decide +kernel)]; kernel_rfl) | (rw [if_neg (by decide +kernel)]; exact ⟨rfl, rfl⟩))
    (fun os started H enc _ F => EventRows_lifted pure os started H enc F)
end Go.Proofs.Ytagdkmcgepidoaa.P
