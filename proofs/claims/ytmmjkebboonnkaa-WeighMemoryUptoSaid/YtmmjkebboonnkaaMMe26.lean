/- P.weighMemory_holds, part 27 of 28: the contracts of the Go functions that the law calls, its own walk, and its plain law, for every input that the statement speaks of. -/
import Derived.Test.YtmmjkebboonnkaaMMe23
import Derived.Test.YtmmjkebboonnkaaMMe25
set_option linter.unusedVariables false
set_option linter.unusedSimpArgs false
/- RMemory -/
namespace Go.Proofs.Ytmmjkebboonnkaa.P
open Go.ChangeShapes Go.WideShapes Go.ChangeAt Go.RowKit Go.Deep Go.Joins Go.Proofs.YtmmjkebboonnkaaW.PrintWords Go.Proofs.YtmmjkebboonnkaaW.PrintLast Go.Proofs.YtmmjkebboonnkaaW.PrintMore
def WeighMemoryPure : Prop := ∀ (l0 : List S49) (l1 : List Int) (a2 : Int), l0.length ≤ 1048576 → l1.length ≤ 1048576 → ∃ k want f reds rf hv g ov oe so se fi fie fp fe vm ve, WMem k l0 l1 a2 want f reds rf hv g ov oe so se fi fie fp fe vm ve
set_option maxRecDepth 100000 in
theorem WeighMemory_contract (pure : WeighMemoryPure) (H : Type) (enc : TypeId × Value → H) (W : World) (base : Nat) (args : Array Value) (ds gs : List (DataW H)) (before : List MemPlace)
    (hval : ∀ (j : Nat) t v, Try.f5.params[j]? = some t → args[j]? = some v → Value.okWide Try.prog W .any base t v)
    (hW : DataW.Whole enc Try.prog Try.f5.params.toList Rows.weighMemorySpec.vars false W args.toList ds gs before) (hk : Rows.uptoSmall H (ds ++ gs) = true) :
    Calls Try.prog 5 args W fun e W' => ∃ v, e = .returned v ∧ Rows.weighMemorySpec.post enc Try.prog Try.f5 false true false false W args v W' := by
  have hW' := hW
  obtain ⟨p, q, hA0, hV, rfl, hfz, hnd⟩ := hW
  have hA : DataW.TrodAll enc Try.prog W 0 (fun _ => true) true Try.f5.params.toList args.toList ds p := hA0
  rw [Try.params5] at hA hval
  obtain ⟨v0, vs0, d0, ds0, p0, q0, hargs, rfl, rfl, h0, r0⟩ := trodAll_cons hA
  obtain ⟨rfl, rfl, rfl⟩ := trodAll_nil r0
  obtain rfl : args = #[v0] := by cases args; simp_all
  obtain ⟨rfl, rfl⟩ := trodVars_none hV
  have lt0 : ∀ x ∈ p0, x.block < W.heap.size := by obtain ⟨m, hm⟩ := h0; exact DataW.trod_lt m _ _ _ hm
  have k0 := h0
  have hB : Rows.uptoBulkAll (H := H) ([d0] ++ []) ≤ 1048576 := of_decide_eq_true hk
  obtain ⟨c0, c1, c2, c3, y0, y1, y2, y3, n, rfl, rfl, -, t0, t1, t2, t3⟩ := open_agg4 Try.underlying25 (by kernel_rfl) (by kernel_rfl) (hval 0 _ v0 rfl rfl) h0
  obtain ⟨A0, len0, cap0, l0, rfl, hc0, hC0, hb0⟩ := seen_nodes t0
  obtain ⟨A1, len1, cap1, l1, rfl, hc1, hC1, hb1⟩ := seen_ints t1
  obtain ⟨a2, rfl, w2⟩ := seen_int t2
  obtain ⟨a3, rfl, w3⟩ := seen_int t3
  simp only [List.cons_append, List.nil_append, Rows.uptoBulkAll, Rows.uptoBulk] at hB
  obtain ⟨k, want, f, reds, rf, hv, g, ov, oe, so, se, fi, fie, fp, fe, vm, ve, hkf⟩ := pure l0 l1 a2 (by omega) (by omega)
  clear hA0 hval
  refine (larchlaw17_WeighMemory_calls k A0 A1 cap0 cap1 l0 l1 a2 a3 want f reds rf hv g ov oe so se fi fie fp fe vm ve W hC0 hc0 hC1 hc1 (by omega) (by omega) hkf).mono fun e W' ⟨he, bel⟩ => ?_
  subst he
  exact ⟨_, rfl, _, _, _, [], _, [], hW', trodAll_mk1 (shut_bool Try.underlying4 _), (trodAll_cons_mk (Below.trod laidOut (by kernel_rfl) (of_decide_eq_true (by kernel_rfl)) k0 bel lt0) trodAll_mk0), rfl, bel.frame _, fun h => by cases h⟩
set_option maxRecDepth 100000 in
theorem WeighMemory_lifted (pure : WeighMemoryPure) (os : Os) (started : os.Started) (H : Type) (enc : TypeId × Value → H) (F : Stop.Interp) :
    ReturnsInHanded {} Try.checked os 5 .any ((Rows.OpenSpec.upto Rows.weighMemorySpec).pre6 enc Try.prog Try.f5 Rows.weighMemoryUptoRow.domain false) (((Rows.OpenSpec.upto Rows.weighMemorySpec).at F).post enc Try.prog Try.f5 false true false false) := by
  refine returnsInHanded_of_cond (C := Try.checked) (s := Rows.OpenSpec.upto Rows.weighMemorySpec) (k := Rows.uptoSmall) rfl own started (by kernel_rfl) Try.func5
    (OpenSpec.witness (enc := enc) (C := Try.checked) (s := Rows.OpenSpec.upto Rows.weighMemorySpec) (k := Rows.uptoSmall) rfl false ⟨#[], #[.agg #[.slice none 0 0, .slice none 0 0, .int .i64 0, .int .i64 0]], []⟩ 8 (by kernel_rfl) (by kernel_rfl) (by kernel_rfl)
      (x := ([.agg [.nil, .nil, .lit (.int .i64 0), .lit (.int .i64 0)]], [], [])) (by kernel_rfl) rfl (by kernel_rfl)) ?_
  intro W base args ds gs before hval hW _ hk _
  exact WeighMemory_contract pure H enc W base args ds gs before hval hW hk
theorem WeighMemory_of (pure : WeighMemoryPure) : Rows.WeighMemoryUptoSaid :=
  OpenClaim.holds_of_cond 5 Try.f5 rfl rfl rfl rfl rfl rfl rfl ⟨rfl, rfl, rfl, rfl, rfl⟩ rfl rfl rfl rfl rfl (by kernel_rfl) Try.func5 (by kernel_rfl)
    (of_decide_eq_true (by kernel_rfl)) (by unfold Func.isWrapper; first | (rw [if_pos (by decide +kernel)]; kernel_rfl) | (rw [if_neg (by decide +kernel)]; exact ⟨rfl, rfl⟩))
    (fun os started H enc _ F => WeighMemory_lifted pure os started H enc F)
end Go.Proofs.Ytmmjkebboonnkaa.P
