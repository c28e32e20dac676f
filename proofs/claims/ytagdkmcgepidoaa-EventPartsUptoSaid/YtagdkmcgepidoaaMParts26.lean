/- P.eventParts_holds, part 27 of 29: the contracts of the Go functions that the law calls, its own walk, and its plain law, for every input that the statement speaks of. -/
import Derived.Test.YtagdkmcgepidoaaMParts14
import Derived.Test.YtagdkmcgepidoaaMParts19
import Derived.Test.YtagdkmcgepidoaaMParts24
import Derived.Test.YtagdkmcgepidoaaMParts25
import Derived.Test.YtagdkmcgepidoaaMParts4
set_option linter.unusedVariables false
set_option linter.unusedSimpArgs false
/- P3 -/
namespace Go.Proofs.Ytagdkmcgepidoaa.P
open Go.RowKit Go.Proofs.YtagdkmcgepidoaaW.PrintWords Go.Proofs.YtagdkmcgepidoaaW.PrintLast Go.Proofs.YtagdkmcgepidoaaW.PrintMore
theorem known_ok3 : larchlaw05_known.f = some true := by kernel_rfl
theorem rd67_mem (l : List S67) (j : Nat) (h : j < l.length) : J67 l (j : Int) ∈ l := by
  unfold J67
  rw [Int.toNat_natCast, List.getD_eq_getElem?_getD, List.getElem?_eq_getElem h]
  exact List.getElem_mem _
theorem drop67 (l : List S67) (j : Nat) (h : j < l.length) : l.drop j = J67 l (j : Int) :: l.drop (j + 1) := by
  rw [List.drop_eq_getElem_cons h]
  unfold J67
  rw [Int.toNat_natCast, List.getD_eq_getElem?_getD, List.getElem?_eq_getElem h]
  rfl
theorem copy_go (x : List S67) (hx : x.length ≤ 100000) (hp : ∀ e ∈ x, e.f3.f3.length ≤ 1048576) : ∀ d (j : Nat) (out : List S67), j + d = x.length → out.length ≤ j → Ev (fun k => larchref05_CopyEvents.l0 k x out (j : Int)) (out ++ x.drop j)
  | 0, j, out, hd, _ => by
    refine Ev.succ ((Ev.const out).congr' (by rw [List.drop_eq_nil_of_le (by omega), List.append_nil]) fun k => ?_)
    simp only [larchref05_CopyEvents.l0]
    rw [if_neg (by omega)]
  | d + 1, j, out, hd, ho => by
    have hpe := hp _ (rd67_mem x j (by omega))
    refine Ev.succ ((copy_go x hx hp d (j + 1) (out ++ [J67 x (j : Int)]) (by omega) (by simp; omega)).congr' (by rw [drop67 x j (by omega)]; simp) fun k => ?_)
    simp only [larchref05_CopyEvents.l0]
    rw [if_pos (by omega), if_pos (by omega)]
    unfold larchref05_CopyRet.f
    simp only [Option.bind_some, List.length_nil, List.nil_append]
    rw [if_pos (by omega)]
    simp only [Option.bind_some]
    rw [if_pos (by omega), wrap_succ (by omega)]
theorem copy_ev (x : List S67) (hx : x.length ≤ 100000) (hp : ∀ e ∈ x, e.f3.f3.length ≤ 1048576) : Ev (fun k => larchref05_CopyEvents.f k x) x := by
  have := copy_go x hx hp x.length 0 [] (by omega) (by simp)
  simpa [larchref05_CopyEvents.f] using this
theorem of_go (l0 : List S67) (t : Int) (hl : l0.length ≤ 100000) (hp : ∀ e ∈ l0, e.f3.f3.length ≤ 1048576) : ∀ d (j : Nat) (out : List S67), j + d = l0.length → out.length ≤ j → (∀ e ∈ out, e.f3.f3.length ≤ 1048576) → Ev (fun k => larchref05_Of.l0 k l0 t out (j : Int)) (keptL (ofP l0 t) l0 d j out, 0)
  | 0, j, out, hd, ho, hq => by
    refine Ev.succ (Ev.congr (g := fun k => (larchref05_CopyEvents.f k out).bind fun t264 => some (t264, (0 : Int))) (Ev.bind (copy_ev out (by omega) hq) (Ev.const _)) fun k => ?_)
    simp only [larchref05_Of.l0]
    rw [if_neg (by omega)]
  | d + 1, j, out, hd, ho, hq => by
    have hpe := hp _ (rd67_mem l0 j (by omega))
    unfold keptL
    by_cases h : (J67 l0 (j : Int)).f0 = t
    · rw [if_pos (by unfold ofP; simpa using h)]
      refine Ev.succ ((of_go l0 t hl hp d (j + 1) (out ++ [J67 l0 (j : Int)]) (by omega) (by simp; omega) (fun e he => by
        rcases List.mem_append.1 he with h1 | h1
        · exact hq e h1
        · simp at h1; rw [h1]; exact hpe)).congr fun k => ?_)
      simp only [larchref05_Of.l0]
      rw [if_pos (by omega), if_pos (by omega), if_pos h, if_pos (by omega), wrap_succ (by omega)]
    · rw [if_neg (by unfold ofP; simpa using h)]
      refine Ev.succ ((of_go l0 t hl hp d (j + 1) out (by omega) (by omega) hq).congr fun k => ?_)
      simp only [larchref05_Of.l0]
      rw [if_pos (by omega), if_pos (by omega), if_neg h, wrap_succ (by omega)]
theorem of_both (l0 : List S67) (hp : ∀ e ∈ l0, e.f3.f3.length ≤ 1048576) (t : Int) : ∃ (v : List S67) (c : Int), event_Of.f l0 t = some (v, c) ∧ Ev (fun k => larchref05_Of.f k l0 t) (v, c) ∧ (c = 0 → v = keptL (ofP l0 t) l0 l0.length 0 []) ∧ (c ≠ 0 → v = []) := by
  obtain ⟨c, hE, hR, h0⟩ := check_both l0
  by_cases e0 : c = 0
  · subst e0
    obtain ⟨hl, -⟩ := h0 rfl
    refine ⟨keptL (ofP l0 t) l0 l0.length 0 [], 0, ?_, ?_, fun _ => rfl, fun h => absurd rfl h⟩
    · unfold event_Of.f
      rw [hE]
      simp only [Option.bind_some, if_true]
      rw [if_pos ⟨hl, hp⟩]
    · unfold larchref05_Of.f
      refine Ev.bind hR ?_
      simp only [if_true]
      exact of_go l0 t hl hp l0.length 0 [] (by omega) (by simp) (by simp)
  · refine ⟨[], c, ?_, ?_, fun h => absurd h e0, fun _ => rfl⟩
    · unfold event_Of.f
      rw [hE]
      simp only [Option.bind_some, if_neg e0]
    · unfold larchref05_Of.f
      refine Ev.bind hR ?_
      simp only [if_neg e0]
      exact Ev.const _
theorem samePairs_go (a b : List S70) (hl : a.length = b.length) (ha : a.length ≤ 1048576) : ∀ d (j : Nat), j + d = a.length → Ev (fun k => larchref05_SamePairs.l0 k a b (j : Int)) (pairsGo a b d j)
  | 0, j, hd => by
    refine Ev.succ ((Ev.const true).congr fun k => ?_)
    simp only [larchref05_SamePairs.l0]
    rw [if_neg (by omega)]
  | d + 1, j, hd => by
    have ih := samePairs_go a b hl ha d (j + 1) (by omega)
    unfold pairsGo
    by_cases h : ((J70 a (j : Int)).f0 == (J70 b (j : Int)).f0 && (J70 a (j : Int)).f1 == (J70 b (j : Int)).f1) = true
    · rw [h, Bool.true_and]
      refine Ev.succ (ih.congr fun k => ?_)
      simp only [larchref05_SamePairs.l0]
      simp only [Bool.and_eq_true, beq_iff_eq] at h
      rw [if_pos (by omega), if_pos (by omega), if_pos (by omega), if_neg (by simp [h.1, h.2]), wrap_succ (by omega)]
    · have h' : ((J70 a (j : Int)).f0 == (J70 b (j : Int)).f0 && (J70 a (j : Int)).f1 == (J70 b (j : Int)).f1) = false := by simpa using h
      rw [h', Bool.false_and]
      refine Ev.succ ((Ev.const false).congr fun k => ?_)
      simp only [larchref05_SamePairs.l0]
      rw [if_pos (by omega), if_pos (by omega), if_pos (by omega), if_pos]
      rw [← Bool.not_and, h']
      rfl
theorem sameRet_ev (a b : S36) (ha : a.f3.length ≤ 1048576) : Ev (fun k => larchref05_SameRet.f k a.f0 a.f1 a.f2 a.f3 b.f0 b.f1 b.f2 b.f3) (sameRetB a b) := by
  unfold larchref05_SameRet.f sameRetB
  by_cases h0 : a.f0 = b.f0
  · by_cases h1 : a.f1 = b.f1
    · by_cases h2 : a.f2 = b.f2
      · have main : Ev (fun k => larchref05_SamePairs.f k a.f3 b.f3) (decide (a.f3.length = b.f3.length) && pairsGo a.f3 b.f3 a.f3.length 0) := by
          unfold larchref05_SamePairs.f
          by_cases h3 : a.f3.length = b.f3.length
          · rw [decide_eq_true h3, Bool.true_and]
            refine (samePairs_go a.f3 b.f3 h3 ha a.f3.length 0 (by omega)).congr fun k => ?_
            rw [if_pos (by omega)]
            rfl
          · rw [decide_eq_false h3, Bool.false_and]
            refine (Ev.const false).congr fun k => ?_
            rw [if_neg (by omega)]
        refine Ev.congr' (g := fun k => (larchref05_SamePairs.f k a.f3 b.f3).bind fun t => some t) (Ev.bind main (Ev.const _)) (by simp [h0, h1, h2]) fun k => ?_
        simp [h0, h1, h2]
      · exact (Ev.const false).congr' (by simp [h2]) fun k => by simp [h0, h1, h2]
    · exact (Ev.const false).congr' (by simp [h1]) fun k => by simp [h0, h1]
  · exact (Ev.const false).congr' (by simp [h0]) fun k => by simp [h0]
theorem sameEvent_ev (a b : S67) (ha : a.f3.f3.length ≤ 1048576) : Ev (fun k => larchref05_sameEvent.f k a.f0 a.f1 a.f2.f0 a.f2.f1 a.f2.f2 a.f2.f3 a.f3.f0 a.f3.f1 a.f3.f2 a.f3.f3 b.f0 b.f1 b.f2.f0 b.f2.f1 b.f2.f2 b.f2.f3 b.f3.f0 b.f3.f1 b.f3.f2 b.f3.f3) (a.f0 == b.f0 && evSame a b) := by
  unfold larchref05_sameEvent.f evSame
  by_cases h0 : a.f0 = b.f0
  · by_cases h1 : a.f1 = b.f1
    · by_cases h2 : opSame a.f2 b.f2 = true
      · refine Ev.congr' (g := fun k => (larchref05_SameRet.f k a.f3.f0 a.f3.f1 a.f3.f2 a.f3.f3 b.f3.f0 b.f3.f1 b.f3.f2 b.f3.f3).bind fun t => some t) (Ev.bind (sameRet_ev a.f3 b.f3 ha) (Ev.const _)) (by simp [h0, h1, h2]) fun k => ?_
        unfold opSame at h2
        rw [if_pos h0, if_pos (by simp [h1]), if_pos h2]
      · refine (Ev.const false).congr' (by simp [h2]) fun k => ?_
        unfold opSame at h2
        rw [if_pos h0, if_pos (by simp [h1]), if_neg h2]
    · exact (Ev.const false).congr' (by simp [h1]) fun k => by rw [if_pos h0, if_neg (by simpa using h1)]
  · exact (Ev.const false).congr' (by simp [h0]) fun k => by rw [if_neg h0]
def seGo (xs ys : List S67) : Nat → Nat → Bool
  | 0, _ => true
  | d + 1, j => ((J67 xs (j : Int)).f0 == (J67 ys (j : Int)).f0 && evSame (J67 xs (j : Int)) (J67 ys (j : Int))) && seGo xs ys d (j + 1)
def seB (xs ys : List S67) : Bool := decide (xs.length = ys.length) && seGo xs ys xs.length 0
theorem se_go (xs ys : List S67) (hl : xs.length = ys.length) (hx : xs.length ≤ 100000) (hp : ∀ e ∈ xs, e.f3.f3.length ≤ 1048576) : ∀ d (j : Nat), j + d = xs.length → Ev (fun k => larchref05_SameEvents.l0 k xs ys (j : Int)) (seGo xs ys d j)
  | 0, j, hd => by
    refine Ev.succ ((Ev.const true).congr fun k => ?_)
    simp only [larchref05_SameEvents.l0]
    rw [if_neg (by omega)]
  | d + 1, j, hd => by
    have ih := se_go xs ys hl hx hp d (j + 1) (by omega)
    have hs := sameEvent_ev (J67 xs (j : Int)) (J67 ys (j : Int)) (hp _ (rd67_mem xs j (by omega)))
    unfold seGo
    obtain ⟨b, hb⟩ : ∃ b, ((J67 xs (j : Int)).f0 == (J67 ys (j : Int)).f0 && evSame (J67 xs (j : Int)) (J67 ys (j : Int))) = b := ⟨_, rfl⟩
    rw [hb] at hs ⊢
    refine Ev.succ (Ev.congr (g := fun k => (larchref05_sameEvent.f k (J67 xs (j : Int)).f0 (J67 xs (j : Int)).f1 (J67 xs (j : Int)).f2.f0 (J67 xs (j : Int)).f2.f1 (J67 xs (j : Int)).f2.f2 (J67 xs (j : Int)).f2.f3 (J67 xs (j : Int)).f3.f0 (J67 xs (j : Int)).f3.f1 (J67 xs (j : Int)).f3.f2 (J67 xs (j : Int)).f3.f3 (J67 ys (j : Int)).f0 (J67 ys (j : Int)).f1 (J67 ys (j : Int)).f2.f0 (J67 ys (j : Int)).f2.f1 (J67 ys (j : Int)).f2.f2 (J67 ys (j : Int)).f2.f3 (J67 ys (j : Int)).f3.f0 (J67 ys (j : Int)).f3.f1 (J67 ys (j : Int)).f3.f2 (J67 ys (j : Int)).f3.f3).bind fun t272 => if t272 = true then larchref05_SameEvents.l0 k xs ys (((j + 1 : Nat) : Int)) else some false) ?_ fun k => ?_)
    · refine Ev.bind hs ?_
      cases b with
      | true => simpa using ih
      | false => simpa using Ev.const false
    · simp only [larchref05_SameEvents.l0]
      rw [if_pos (by omega), if_pos (by omega), if_pos (by omega), wrap_succ (by omega)]
theorem se_ev (xs ys : List S67) (hx : xs.length ≤ 100000) (hp : ∀ e ∈ xs, e.f3.f3.length ≤ 1048576) : Ev (fun k => larchref05_SameEvents.f k xs ys) (seB xs ys) := by
  unfold larchref05_SameEvents.f seB
  by_cases h : xs.length = ys.length
  · rw [decide_eq_true h, Bool.true_and]
    refine (se_go xs ys h hx hp xs.length 0 (by omega)).congr fun k => ?_
    rw [if_pos (by omega)]
    rfl
  · rw [decide_eq_false h, Bool.false_and]
    refine (Ev.const false).congr fun k => ?_
    rw [if_neg (by omega)]
theorem keptL_len (p : Nat → Bool) (l0 : List S67) : ∀ d (j : Nat) (out : List S67), (keptL p l0 d j out).length ≤ out.length + d
  | 0, _, _ => Nat.le_refl _
  | d + 1, j, out => by
    unfold keptL
    split
    · have := keptL_len p l0 d (j + 1) (out ++ [J67 l0 (j : Int)])
      simp at this
      omega
    · have := keptL_len p l0 d (j + 1) out
      omega
end Go.Proofs.Ytagdkmcgepidoaa.P
