/- P.modelMemory_holds, part 36 of 37: the contracts of the Go functions that the law calls, its own walk, and its plain law, for every input that the statement speaks of. -/
import Derived.Test.YtanlnfcjdjamaaaMMe28
import Derived.Test.YtanlnfcjdjamaaaMMe34
set_option linter.unusedVariables false
set_option linter.unusedSimpArgs false
/- RMem -/
namespace Go.Proofs.Ytanlnfcjdjamaaa.P
open Go.ChangeShapes Go.WideShapes Go.ChangeAt Go.RowKit Go.Deep Go.Joins Go.Proofs.YtanlnfcjdjamaaaW.PrintWords Go.Proofs.YtanlnfcjdjamaaaW.PrintLast Go.Proofs.YtanlnfcjdjamaaaW.PrintMore
def ModelMemoryPure : Prop := ∀ (m nn : List S51) (ops : List S25) (o0 o1 o2 o3 kk hh : Int), m.length ≤ 300 → nn.length ≤ 300 → ops.length ≤ 300 → ∃ k ru rs re dl g0 g1 g2 gp de pl pe fl df dfe fi fb fe ru2 rs2 re2, Mem k m nn ops o0 o1 o2 o3 kk hh ru rs re dl g0 g1 g2 gp de pl pe fl df dfe fi fb fe ru2 rs2 re2
set_option maxRecDepth 100000 in
theorem ModelMemory_contract (pure : ModelMemoryPure) (H : Type) (enc : TypeId × Value → H) (W : World) (base : Nat) (args : Array Value) (ds gs : List (DataW H)) (before : List MemPlace)
    (hval : ∀ (j : Nat) t v, Try.f5.params[j]? = some t → args[j]? = some v → Value.okWide Try.prog W .any base t v)
    (hW : DataW.Whole enc Try.prog Try.f5.params.toList Rows.modelMemorySpec.vars false W args.toList ds gs before) (hk : Rows.uptoSmall H (ds ++ gs) = true) :
    Calls Try.prog 5 args W fun e W' => ∃ v, e = .returned v ∧ Rows.modelMemorySpec.post enc Try.prog Try.f5 false true false false W args v W' := by
  have hW' := hW
  obtain ⟨p, q, hA0, hV, rfl, hfz, hnd⟩ := hW
  have hA : DataW.TrodAll enc Try.prog W 0 (fun _ => true) true Try.f5.params.toList args.toList ds p := hA0
  rw [Try.params5] at hA hval
  obtain ⟨v0, vs0, d0, ds0, p0, q0, ha0_, rfl, rfl, h0, r0⟩ := trodAll_cons hA
  obtain ⟨rfl, rfl, rfl⟩ := trodAll_nil r0
  obtain rfl : args = #[v0] := by cases args; simp_all
  obtain ⟨rfl, rfl⟩ := trodVars_none hV
  have lt0 : ∀ x ∈ p0, x.block < W.heap.size := by obtain ⟨m, hm⟩ := h0; exact DataW.trod_lt m _ _ _ hm
  have k0 := h0
  have hB : Rows.uptoBulkAll (H := H) ([d0] ++ []) ≤ 1048576 := of_decide_eq_true hk
  obtain ⟨A0, A1, A2, A3, A4, c0, c1, c2, c3, c4, l0, l1, l2, l3, o0, o1, o2, o3, b, q1, q2, ps, kk, hi, rfl, ⟨hc0, hC0⟩, ⟨hc1, hC1⟩, ⟨hc2, hC2⟩, ⟨hc3, hC3⟩, ⟨hc4, hC4⟩, hb, -, -, -, -⟩ := seen_case (hval 0 _ v0 rfl rfl) h0
  simp only [List.cons_append, List.nil_append, Rows.uptoBulkAll, Rows.uptoBulk] at hB
  obtain ⟨k, ru, rs, re, dl, g0, g1, g2, gp, de, pl, pe, fl, df, dfe, fi, fb, fe, ru2, rs2, re2, hkf⟩ := pure (l0.take 300) (l1.take 300) (l2.take 300) o0 o1 o2 o3 kk hi (by rw [List.length_take]; omega) (by rw [List.length_take]; omega) (by rw [List.length_take]; omega)
  clear hA0 hval
  refine (larchlaw06_ModelMemory_calls k A0 A1 A2 A3 A4 c0 c1 c2 c3 c4 l0 l1 l2 l3 o0 o1 o2 o3 b q1 q2 ps kk hi ru rs re dl g0 g1 g2 gp de pl pe fl df dfe fi fb fe ru2 rs2 re2 W hc0 hC0 hc1 hC1 hc2 hC2 hc3 hC3 hc4 hC4 hkf).mono fun e W' ⟨he, bel⟩ => ?_
  subst he
  exact ⟨_, rfl, _, _, _, [], _, [], hW', trodAll_mk1 (shut_bool Try.underlying4 _), (trodAll_cons_mk (Below.trod laidOut (by kernel_rfl) (of_decide_eq_true (by kernel_rfl)) k0 bel lt0) trodAll_mk0), rfl, bel.frame _, fun h => by cases h⟩
set_option maxRecDepth 100000 in
theorem ModelMemory_lifted (pure : ModelMemoryPure) (os : Os) (started : os.Started) (H : Type) (enc : TypeId × Value → H) (F : Stop.Interp) :
    ReturnsInHanded {} Try.checked os 5 .any ((Rows.OpenSpec.upto Rows.modelMemorySpec).pre6 enc Try.prog Try.f5 Rows.modelMemoryUptoRow.domain false) (((Rows.OpenSpec.upto Rows.modelMemorySpec).at F).post enc Try.prog Try.f5 false true false false) := by
  refine returnsInHanded_of_cond (C := Try.checked) (s := Rows.OpenSpec.upto Rows.modelMemorySpec) (k := Rows.uptoSmall) rfl own started (by kernel_rfl) Try.func5
    (OpenSpec.witness (enc := enc) (C := Try.checked) (s := Rows.OpenSpec.upto Rows.modelMemorySpec) (k := Rows.uptoSmall) rfl false ⟨#[], #[.agg #[.slice none 0 0, .slice none 0 0, .slice none 0 0, .slice none 0 0, .int .i64 0, .int .i64 0, .int .i64 0, .int .i64 0, .bool false, .int .i64 0, .int .i64 0, .slice none 0 0, .int .i64 0, .int .i64 0]], []⟩ 8 (by kernel_rfl) (by kernel_rfl) (by kernel_rfl)
      (x := ([.agg [.nil, .nil, .nil, .nil, .agg [.lit (.int .i64 0), .lit (.int .i64 0), .lit (.int .i64 0), .lit (.int .i64 0)], .agg [.lit (.bool false), .lit (.int .i64 0), .lit (.int .i64 0), .nil], .lit (.int .i64 0), .lit (.int .i64 0)]], [], [])) (by kernel_rfl) rfl (by kernel_rfl)) ?_
  intro W base args ds gs before hval hW _ hk _
  exact ModelMemory_contract pure H enc W base args ds gs before hval hW hk
theorem ModelMemory_of (pure : ModelMemoryPure) : Rows.ModelMemoryUptoSaid :=
  OpenClaim.holds_of_cond 5 Try.f5 rfl rfl rfl rfl rfl rfl rfl ⟨rfl, rfl, rfl, rfl, rfl⟩ rfl rfl rfl rfl rfl (by kernel_rfl) Try.func5 (by kernel_rfl)
    (of_decide_eq_true (by kernel_rfl)) (by unfold Func.isWrapper; first | (rw [if_pos (by decide +kernel)]; kernel_rfl) | (rw [if_neg (by decide +kernel)]; exact ⟨rfl, rfl⟩))
    (fun os started H enc _ F => ModelMemory_lifted pure os started H enc F)
end Go.Proofs.Ytanlnfcjdjamaaa.P
