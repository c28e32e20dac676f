/- P.eventApart_holds, part 26 of 41: the contracts of the Go functions that the law calls, its own walk, and its plain law, for every input that the statement speaks of. -/
import Derived.Test.YtagdkmcgepidoaaMAp24
import Derived.Test.YtagdkmcgepidoaaMAp2
import Derived.Test.YtagdkmcgepidoaaMAp4
set_option linter.unusedVariables false
set_option linter.unusedSimpArgs false
/- E10 -/
namespace Go.Proofs.Ytagdkmcgepidoaa.P
open Go.RowKit Go.Proofs.YtagdkmcgepidoaaW.PrintWords Go.Proofs.YtagdkmcgepidoaaW.PrintLast Go.Proofs.YtagdkmcgepidoaaW.PrintMore
attribute [local go_sem high] eqA33
def pairsGo (a b : List S70) : Nat → Nat → Bool
  | 0, _ => true
  | d + 1, j => ((J70 a (j : Int)).f0 == (J70 b (j : Int)).f0 && (J70 a (j : Int)).f1 == (J70 b (j : Int)).f1) && pairsGo a b d (j + 1)
def sameRetB (a b : S36) : Bool := a.f0 == b.f0 && (a.f1 == b.f1 && (a.f2 == b.f2 && (decide (a.f3.length = b.f3.length) && pairsGo a.f3 b.f3 a.f3.length 0)))
theorem pair71_go (a b : List S70) (hl : a.length = b.length) (ha : a.length ≤ 1048576) : ∀ (d j k : Nat), j + d = a.length → d < k → api_Pair_71.l0 k a b (a.length : Int) (j : Int) = some (pairsGo a b d j)
  | 0, j, k, hd, hk => by
    obtain ⟨m, rfl⟩ : ∃ m, k = m + 1 := ⟨k - 1, by omega⟩
    simp only [api_Pair_71.l0, pairsGo]
    rw [if_neg (by omega)]
  | d + 1, j, k, hd, hk => by
    obtain ⟨m, rfl⟩ : ∃ m, k = m + 1 := ⟨k - 1, by omega⟩
    have ih := pair71_go a b hl ha d (j + 1) m (by omega) (by omega)
    have hw : wrap64 ((j : Int) + 1) = ((j + 1 : Nat) : Int) := by unfold wrap64; omega
    simp only [api_Pair_71.l0, pairsGo]
    rw [if_pos (by omega), if_pos (by omega), if_pos (by omega), if_pos (by omega), hw]
    by_cases h0 : (J70 a (j : Int)).f0 = (J70 b (j : Int)).f0
    · by_cases h1 : (J70 a (j : Int)).f1 = (J70 b (j : Int)).f1
      · rw [if_neg (by simp [h0, h1]), ih]
        simp [h0, h1]
      · rw [if_pos (by simp [h1])]
        simp [h1]
    · rw [if_pos (by simp [h0])]
      simp [h0]
theorem sameRet_is (a b : S36) (ha : a.f3.length ≤ 1048576) : event_sameRet.f 1048577 a.f0 a.f1 a.f2 a.f3 b.f0 b.f1 b.f2 b.f3 = some (sameRetB a b) := by
  unfold event_sameRet.f api_Pair_71.f sameRetB
  by_cases h0 : a.f0 = b.f0
  · by_cases h1 : a.f1 = b.f1
    · by_cases h2 : a.f2 = b.f2
      · by_cases h3 : a.f3.length = b.f3.length
        · rw [if_pos (by simp [h0]), if_pos h1, if_pos h2, if_pos (by omega)]
          have := pair71_go a.f3 b.f3 h3 ha a.f3.length 0 1048577 (by omega) (by omega)
          rw [show (0 : Int) = ((0 : Nat) : Int) from rfl, this]
          simp [h0, h1, h2, h3]
        · rw [if_pos (by simp [h0]), if_pos h1, if_pos h2, if_neg (by omega)]
          simp [h3]
      · rw [if_pos (by simp [h0]), if_pos h1, if_neg h2]
        simp [h2]
    · rw [if_pos (by simp [h0]), if_neg h1]
      simp [h1]
  · rw [if_neg (by simp [h0])]
    simp [h0]
def evSame (a b : S67) : Bool := a.f1 == b.f1 && (opSame a.f2 b.f2 && sameRetB a.f3 b.f3)
theorem keptL_mem (p : Nat → Bool) (l0 : List S67) : ∀ d (j : Nat) (out : List S67), j + d = l0.length → ∀ x ∈ keptL p l0 d j out, x ∈ out ∨ x ∈ l0
  | 0, _, _, _, x, hx => .inl hx
  | d + 1, j, out, hd, x, hx => by
    have hin : J67 l0 (j : Int) ∈ l0 := by
      unfold J67
      rw [Int.toNat_natCast, List.getD_eq_getElem?_getD, List.getElem?_eq_getElem (by omega)]
      exact List.getElem_mem _
    unfold keptL at hx
    split at hx
    · rcases keptL_mem p l0 d (j + 1) _ (by omega) x hx with h | h
      · rcases List.mem_append.1 h with h | h
        · exact .inl h
        · simp at h
          exact .inr (by rw [h]; exact hin)
      · exact .inr h
    · exact keptL_mem p l0 d (j + 1) out (by omega) x hx
end Go.Proofs.Ytagdkmcgepidoaa.P
