/- P.modelLaws_holds, part 34 of 35: the contracts of the Go functions that the law calls, its own walk, and its plain law, for every input that the statement speaks of. -/
import Derived.Test.YtanlnfcjdjamaaaMLa28
import Derived.Test.YtanlnfcjdjamaaaMLa32
set_option linter.unusedVariables false
set_option linter.unusedSimpArgs false
/- RLaws -/
namespace Go.Proofs.Ytanlnfcjdjamaaa.P
open Go.ChangeShapes Go.WideShapes Go.ChangeAt Go.RowKit Go.Deep Go.Joins Go.Proofs.YtanlnfcjdjamaaaW.PrintWords Go.Proofs.YtanlnfcjdjamaaaW.PrintLast Go.Proofs.YtanlnfcjdjamaaaW.PrintMore
def ModelLawsPure : Prop := ∀ (m : List S51) (ops more : List S25) (o0 o1 o2 o3 kk hh : Int), m.length ≤ 300 → ops.length ≤ 300 → more.length ≤ 300 → (Lit.int .i64 kk).wf = true → (∀ p ∈ m, (Lit.int .i64 p.f0).wf = true) →
  ∃ (k : Nat) (fl : List S51), (∃ kd, LawsB k m o0 fl kd) ∨ ∃ (al : List S51) (r1 : List S27) (e : Int) (fi : List S51) (r2 : List S27) (f : Int) (nl : List S51) (z0 : Bool) (z1 z2 : Int) (np : List S51) (ch : Bool) (pl : List S51) (p0 : Bool) (p1 p2 : Int) (pp gl hl wp : List S51) (lw hg nx bk : S27) (ab be : List S51), Laws k m ops more o0 o1 o2 o3 kk hh fl al r1 e fi r2 f nl z0 z1 z2 np ch pl p0 p1 p2 pp gl hl wp lw hg nx bk ab be
set_option maxRecDepth 100000 in
theorem ModelLaws_contract (pure : ModelLawsPure) (H : Type) (enc : TypeId × Value → H) (W : World) (base : Nat) (args : Array Value) (ds gs : List (DataW H)) (before : List MemPlace)
    (hval : ∀ (j : Nat) t v, Try.f4.params[j]? = some t → args[j]? = some v → Value.okWide Try.prog W .any base t v)
    (hW : DataW.Whole enc Try.prog Try.f4.params.toList Rows.modelLawsSpec.vars false W args.toList ds gs before) (hk : Rows.uptoSmall H (ds ++ gs) = true) :
    Calls Try.prog 4 args W fun e W' => ∃ v, e = .returned v ∧ Rows.modelLawsSpec.post enc Try.prog Try.f4 false true false false W args v W' := by
  have hW' := hW
  obtain ⟨p, q, hA0, hV, rfl, hfz, hnd⟩ := hW
  have hA : DataW.TrodAll enc Try.prog W 0 (fun _ => true) true Try.f4.params.toList args.toList ds p := hA0
  rw [Try.params4] at hA hval
  obtain ⟨v0, vs0, d0, ds0, p0, q0, ha0_, rfl, rfl, h0, r0⟩ := trodAll_cons hA
  obtain ⟨rfl, rfl, rfl⟩ := trodAll_nil r0
  obtain rfl : args = #[v0] := by cases args; simp_all
  obtain ⟨rfl, rfl⟩ := trodVars_none hV
  have lt0 : ∀ x ∈ p0, x.block < W.heap.size := by obtain ⟨m, hm⟩ := h0; exact DataW.trod_lt m _ _ _ hm
  have k0 := h0
  have hB : Rows.uptoBulkAll (H := H) ([d0] ++ []) ≤ 1048576 := of_decide_eq_true hk
  obtain ⟨A0, A1, A2, A3, A4, c0, c1, c2, c3, c4, l0, l1, l2, l3, o0, o1, o2, o3, b, q1, q2, ps, kk, hi, rfl, ⟨hc0, hC0⟩, ⟨hc1, hC1⟩, ⟨hc2, hC2⟩, ⟨hc3, hC3⟩, ⟨hc4, hC4⟩, hb, hwk, -, -, -, hwm⟩ := seen_caseW (hval 0 _ v0 rfl rfl) h0
  simp only [List.cons_append, List.nil_append, Rows.uptoBulkAll, Rows.uptoBulk] at hB
  obtain ⟨k, fl, hk2⟩ := pure (l0.take 300) (l2.take 300) (l3.take 300) o0 o1 o2 o3 kk hi (by rw [List.length_take]; omega) (by rw [List.length_take]; omega) (by rw [List.length_take]; omega) hwk (fun p hp => hwm p (List.mem_of_mem_take hp))
  clear hA0 hval
  have hgo : Calls Try.prog 4 #[.agg #[.slice A0 l0.length c0, .slice A1 l1.length c1, .slice A2 l2.length c2, .slice A3 l3.length c3, .int .i64 o0, .int .i64 o1, .int .i64 o2, .int .i64 o3, .bool b, .int .i64 q1, .int .i64 q2, .slice A4 ps.length c4, .int .i64 kk, .int .i64 hi]] W fun e w' => e = .returned (.bool true) ∧ Below W.heap.size W w' := by
    rcases hk2 with ⟨kd, hkb⟩ | ⟨al, r1, e, fi, r2, f, nl, z0, z1, z2, np, ch, pl, g0, g1, g2, pp, gl, hl, wp, lw, hg, nx, bk, ab, be, hkf⟩
    · exact larchlaw06_ModelLaws_none k A0 A1 A2 A3 A4 c0 c1 c2 c3 c4 l0 l1 l2 l3 o0 o1 o2 o3 b q1 q2 ps kk hi fl kd W hc0 hC0 hc1 hC1 hc2 hC2 hc3 hC3 hc4 hC4 hkb
    · exact larchlaw06_ModelLaws_calls k A0 A1 A2 A3 A4 c0 c1 c2 c3 c4 l0 l1 l2 l3 o0 o1 o2 o3 b q1 q2 ps kk hi fl al r1 e fi r2 f nl z0 z1 z2 np ch pl g0 g1 g2 pp gl hl wp lw hg nx bk ab be W hc0 hC0 hc1 hC1 hc2 hC2 hc3 hC3 hc4 hC4 hkf
  refine hgo.mono fun e W' ⟨he, bel⟩ => ?_
  subst he
  exact ⟨_, rfl, _, _, _, [], _, [], hW', trodAll_mk1 (shut_bool Try.underlying4 _), (trodAll_cons_mk (Below.trod laidOut (by kernel_rfl) (of_decide_eq_true (by kernel_rfl)) k0 bel lt0) trodAll_mk0), rfl, bel.frame _, fun h => by cases h⟩
set_option maxRecDepth 100000 in
theorem ModelLaws_lifted (pure : ModelLawsPure) (os : Os) (started : os.Started) (H : Type) (enc : TypeId × Value → H) (F : Stop.Interp) :
    ReturnsInHanded {} Try.checked os 4 .any ((Rows.OpenSpec.upto Rows.modelLawsSpec).pre6 enc Try.prog Try.f4 Rows.modelLawsUptoRow.domain false) (((Rows.OpenSpec.upto Rows.modelLawsSpec).at F).post enc Try.prog Try.f4 false true false false) := by
  refine returnsInHanded_of_cond (C := Try.checked) (s := Rows.OpenSpec.upto Rows.modelLawsSpec) (k := Rows.uptoSmall) rfl own started (by kernel_rfl) Try.func4
    (OpenSpec.witness (enc := enc) (C := Try.checked) (s := Rows.OpenSpec.upto Rows.modelLawsSpec) (k := Rows.uptoSmall) rfl false ⟨#[], #[.agg #[.slice none 0 0, .slice none 0 0, .slice none 0 0, .slice none 0 0, .int .i64 0, .int .i64 0, .int .i64 0, .int .i64 0, .bool false, .int .i64 0, .int .i64 0, .slice none 0 0, .int .i64 0, .int .i64 0]], []⟩ 8 (by kernel_rfl) (by kernel_rfl) (by kernel_rfl)
      (x := ([.agg [.nil, .nil, .nil, .nil, .agg [.lit (.int .i64 0), .lit (.int .i64 0), .lit (.int .i64 0), .lit (.int .i64 0)], .agg [.lit (.bool false), .lit (.int .i64 0), .lit (.int .i64 0), .nil], .lit (.int .i64 0), .lit (.int .i64 0)]], [], [])) (by kernel_rfl) rfl (by kernel_rfl)) ?_
  intro W base args ds gs before hval hW _ hk _
  exact ModelLaws_contract pure H enc W base args ds gs before hval hW hk
theorem ModelLaws_of (pure : ModelLawsPure) : Rows.ModelLawsUptoSaid :=
  OpenClaim.holds_of_cond 4 Try.f4 rfl rfl rfl rfl rfl rfl rfl ⟨rfl, rfl, rfl, rfl, rfl⟩ rfl rfl rfl rfl rfl (by kernel_rfl) Try.func4 (by kernel_rfl)
    (of_decide_eq_true (by kernel_rfl)) (by unfold Func.isWrapper; first | (rw [if_pos (by decide +kernel)]; kernel_rfl) | (rw [if_neg (by decide +kernel)]; exact ⟨rfl, rfl⟩))
    (fun os started H enc _ F => ModelLaws_lifted pure os started H enc F)
end Go.Proofs.Ytanlnfcjdjamaaa.P
