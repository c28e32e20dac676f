/- P.eventApart_holds, part 36 of 41: the contracts of the Go functions that the law calls, its own walk, and its plain law, for every input that the statement speaks of. -/
import Derived.Test.YtagdkmcgepidoaaMAp6
import Derived.Test.YtagdkmcgepidoaaMAp34
import Derived.Test.YtagdkmcgepidoaaMAp2
set_option linter.unusedVariables false
set_option linter.unusedSimpArgs false
/- RApart -/
namespace Go.Proofs.Ytagdkmcgepidoaa.P
open Go.ChangeShapes Go.WideShapes Go.ChangeAt Go.RowKit Go.Deep Go.Joins Go.Proofs.YtagdkmcgepidoaaW.PrintWords Go.Proofs.YtagdkmcgepidoaaW.PrintLast Go.Proofs.YtagdkmcgepidoaaW.PrintMore
def EventApartPure : Prop := ∀ (l0 : List S67), l0.length ≤ 1048576 → (∀ e ∈ l0, e.f3.f3.length ≤ 1048576) → ∃ k cs e cut don ofl back rcs rcut rdon rof e2 e3 e4 e5 e6 e7 e8, Apart k l0 cs e cut don ofl back rcs rcut rdon rof e2 e3 e4 e5 e6 e7 e8
set_option maxRecDepth 100000 in
theorem EventApart_contract (pure : EventApartPure) (H : Type) (enc : TypeId × Value → H) (W : World) (base : Nat) (args : Array Value) (ds gs : List (DataW H)) (before : List MemPlace)
    (hval : ∀ (j : Nat) t v, Try.f11.params[j]? = some t → args[j]? = some v → Value.okWide Try.prog W .any base t v)
    (hW : DataW.Whole enc Try.prog Try.f11.params.toList Rows.eventApartSpec.vars false W args.toList ds gs before) (hk : Rows.uptoSmall H (ds ++ gs) = true) :
    Calls Try.prog 11 args W fun e W' => ∃ v, e = .returned v ∧ Rows.eventApartSpec.post enc Try.prog Try.f11 false true false false W args v W' := by
  have hW' := hW
  obtain ⟨p, q, hA0, hV, rfl, hfz, hnd⟩ := hW
  have hA : DataW.TrodAll enc Try.prog W 0 (fun _ => true) true Try.f11.params.toList args.toList ds p := hA0
  rw [Try.params11] at hA hval
  obtain ⟨v0, vs0, d0, ds0, p0, q0, ha0_, rfl, rfl, h0, r0⟩ := trodAll_cons hA
  obtain ⟨rfl, rfl, rfl⟩ := trodAll_nil r0
  obtain rfl : args = #[v0] := by cases args; simp_all
  obtain ⟨rfl, rfl⟩ := trodVars_none hV
  have lt0 : ∀ x ∈ p0, x.block < W.heap.size := by obtain ⟨m, hm⟩ := h0; exact DataW.trod_lt m _ _ _ hm
  have k0 := h0
  have hB : Rows.uptoBulkAll (H := H) ([d0] ++ []) ≤ 1048576 := of_decide_eq_true hk
  have hcl0 : v0.cells.toList = [v0] := by obtain ⟨_, _, _, e⟩ := okWide_slice Try.underlying22 (hval 0 _ v0 rfl rfl); rw [e]; rfl
  obtain ⟨m0, hm0⟩ := h0
  rw [hcl0] at hm0
  obtain ⟨A0, cap0, l0, rfl, hc0, hC0, hb0, hp0⟩ := seen_events hm0
  have hb0 := show l0.length ≤ Rows.uptoBulk d0 from hb0
  simp only [List.cons_append, List.nil_append, Rows.uptoBulkAll, Rows.uptoBulk] at hB
  obtain ⟨k, cs, e_, cut, don, ofl, back, rcs, rcut, rdon, rof, e2, e3, e4, e5, e6, e7, e8, hkf⟩ := pure l0 (by omega) (fun e he => by have := show e.f3.f3.length ≤ Rows.uptoBulk d0 from hp0 e he; omega)
  clear hA0 hval
  refine (larchlaw05_EventApart_calls k A0 cap0 l0 cs e_ cut don ofl back rcs rcut rdon rof e2 e3 e4 e5 e6 e7 e8 W hC0 hc0 (by omega) hkf).mono fun e W' ⟨he, bel⟩ => ?_
  subst he
  exact ⟨_, rfl, _, _, _, [], _, [], hW', trodAll_mk1 (shut_bool Try.underlying4 _), (trodAll_cons_mk (Below.trod laidOut (by kernel_rfl) (of_decide_eq_true (by kernel_rfl)) k0 bel lt0) trodAll_mk0), rfl, bel.frame _, fun h => by cases h⟩
set_option maxRecDepth 100000 in
theorem EventApart_lifted (pure : EventApartPure) (os : Os) (started : os.Started) (H : Type) (enc : TypeId × Value → H) (F : Stop.Interp) :
    ReturnsInHanded {} Try.checked os 11 .any ((Rows.OpenSpec.upto Rows.eventApartSpec).pre6 enc Try.prog Try.f11 Rows.eventApartUptoRow.domain false) (((Rows.OpenSpec.upto Rows.eventApartSpec).at F).post enc Try.prog Try.f11 false true false false) := by
  refine returnsInHanded_of_cond (C := Try.checked) (s := Rows.OpenSpec.upto Rows.eventApartSpec) (k := Rows.uptoSmall) rfl own started (by kernel_rfl) Try.func11
    (OpenSpec.witness (enc := enc) (C := Try.checked) (s := Rows.OpenSpec.upto Rows.eventApartSpec) (k := Rows.uptoSmall) rfl false ⟨#[], #[.slice none 0 0], []⟩ 8 (by kernel_rfl) (by kernel_rfl) (by kernel_rfl)
      (x := ([.nil], [], [])) (by kernel_rfl) rfl (by kernel_rfl)) ?_
  intro W base args ds gs before hval hW _ hk _
  exact EventApart_contract pure H enc W base args ds gs before hval hW hk
theorem EventApart_of (pure : EventApartPure) : Rows.EventApartUptoSaid :=
  OpenClaim.holds_of_cond 11 Try.f11 rfl rfl rfl rfl rfl rfl rfl ⟨rfl, rfl, rfl, rfl, rfl⟩ rfl rfl rfl rfl rfl (by kernel_rfl) Try.func11 (by kernel_rfl)
    (of_decide_eq_true (by kernel_rfl)) (by unfold Func.isWrapper; first | (rw [if_pos (by decide +kernel)]; kernel_rfl) | (rw [if_neg (by decide +kernel)]; exact ⟨rfl, rfl⟩))
    (fun os started H enc _ F => EventApart_lifted pure os started H enc F)
end Go.Proofs.Ytagdkmcgepidoaa.P
