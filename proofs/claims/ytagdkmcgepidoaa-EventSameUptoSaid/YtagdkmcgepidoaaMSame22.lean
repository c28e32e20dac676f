/- P.eventSame_holds, part 23 of 23: the contracts of the Go functions that the law calls, its own walk, and its plain law, for every input that the statement speaks of. -/
import Derived.Test.YtagdkmcgepidoaaMSame13
import Derived.Test.YtagdkmcgepidoaaMSame16
import Derived.Test.YtagdkmcgepidoaaMSame21
import Derived.Test.YtagdkmcgepidoaaMSame20
import Derived.Test.YtagdkmcgepidoaaMSame4
set_option linter.unusedVariables false
set_option linter.unusedSimpArgs false
/- P3 -/
namespace Go.Proofs.Ytagdkmcgepidoaa.P
open Go.RowKit Go.Proofs.YtagdkmcgepidoaaW.PrintWords Go.Proofs.YtagdkmcgepidoaaW.PrintLast Go.Proofs.YtagdkmcgepidoaaW.PrintMore
theorem known_ok3 : larchlaw05_known.f = some true := by kernel_rfl
theorem rd67_mem (l : List S67) (j : Nat) (h : j < l.length) : J67 l (j : Int) ∈ l := by
  unfold J67
  rw [Int.toNat_natCast, List.getD_eq_getElem?_getD, List.getElem?_eq_getElem h]
  exact List.getElem_mem _
theorem drop67 (l : List S67) (j : Nat) (h : j < l.length) : l.drop j = J67 l (j : Int) :: l.drop (j + 1) := by
  rw [List.drop_eq_getElem_cons h]
  unfold J67
  rw [Int.toNat_natCast, List.getD_eq_getElem?_getD, List.getElem?_eq_getElem h]
  rfl
theorem copy_go (x : List S67) (hx : x.length ≤ 100000) (hp : ∀ e ∈ x, e.f3.f3.length ≤ 1048576) : ∀ d (j : Nat) (out : List S67), j + d = x.length → out.length ≤ j → Ev (fun k => larchref05_CopyEvents.l0 k x out (j : Int)) (out ++ x.drop j)
  | 0, j, out, hd, _ => by
    refine Ev.succ ((Ev.const out).congr' (by rw [List.drop_eq_nil_of_le (by omega), List.append_nil]) fun k => ?_)
    simp only [larchref05_CopyEvents.l0]
    rw [if_neg (by omega)]
  | d + 1, j, out, hd, ho => by
    have hpe := hp _ (rd67_mem x j (by omega))
    refine Ev.succ ((copy_go x hx hp d (j + 1) (out ++ [J67 x (j : Int)]) (by omega) (by simp; omega)).congr' (by rw [drop67 x j (by omega)]; simp) fun k => ?_)
    simp only [larchref05_CopyEvents.l0]
    rw [if_pos (by omega), if_pos (by omega)]
    unfold larchref05_CopyRet.f
    simp only [Option.bind_some, List.length_nil, List.nil_append]
    rw [if_pos (by omega)]
    simp only [Option.bind_some]
    rw [if_pos (by omega), wrap_succ (by omega)]
theorem copy_ev (x : List S67) (hx : x.length ≤ 100000) (hp : ∀ e ∈ x, e.f3.f3.length ≤ 1048576) : Ev (fun k => larchref05_CopyEvents.f k x) x := by
  have := copy_go x hx hp x.length 0 [] (by omega) (by simp)
  simpa [larchref05_CopyEvents.f] using this
theorem of_go (l0 : List S67) (t : Int) (hl : l0.length ≤ 100000) (hp : ∀ e ∈ l0, e.f3.f3.length ≤ 1048576) : ∀ d (j : Nat) (out : List S67), j + d = l0.length → out.length ≤ j → (∀ e ∈ out, e.f3.f3.length ≤ 1048576) → Ev (fun k => larchref05_Of.l0 k l0 t out (j : Int)) (keptL (ofP l0 t) l0 d j out, 0)
  | 0, j, out, hd, ho, hq => by
    refine Ev.succ (Ev.congr (g := fun k => (larchref05_CopyEvents.f k out).bind fun t264 => some (t264, (0 : Int))) (Ev.bind (copy_ev out (by omega) hq) (Ev.const _)) fun k => ?_)
    simp only [larchref05_Of.l0]
    rw [if_neg (by omega)]
  | d + 1, j, out, hd, ho, hq => by
    have hpe := hp _ (rd67_mem l0 j (by omega))
    unfold keptL
    by_cases h : (J67 l0 (j : Int)).f0 = t
    · rw [if_pos (by unfold ofP; simpa using h)]
      refine Ev.succ ((of_go l0 t hl hp d (j + 1) (out ++ [J67 l0 (j : Int)]) (by omega) (by simp; omega) (fun e he => by
        rcases List.mem_append.1 he with h1 | h1
        · exact hq e h1
        · simp at h1; rw [h1]; exact hpe)).congr fun k => ?_)
      simp only [larchref05_Of.l0]
      rw [if_pos (by omega), if_pos (by omega), if_pos h, if_pos (by omega), wrap_succ (by omega)]
    · rw [if_neg (by unfold ofP; simpa using h)]
      refine Ev.succ ((of_go l0 t hl hp d (j + 1) out (by omega) (by omega) hq).congr fun k => ?_)
      simp only [larchref05_Of.l0]
      rw [if_pos (by omega), if_pos (by omega), if_neg h, wrap_succ (by omega)]
theorem samePairs_go (a b : List S70) (hl : a.length = b.length) (ha : a.length ≤ 1048576) : ∀ d (j : Nat), j + d = a.length → Ev (fun k => larchref05_SamePairs.l0 k a b (j : Int)) (pairsGo a b d j)
  | 0, j, hd => by
    refine Ev.succ ((Ev.const true).congr fun k => ?_)
    simp only [larchref05_SamePairs.l0]
    rw [if_neg (by omega)]
  | d + 1, j, hd => by
    have ih := samePairs_go a b hl ha d (j + 1) (by omega)
    unfold pairsGo
    by_cases h : ((J70 a (j : Int)).f0 == (J70 b (j : Int)).f0 && (J70 a (j : Int)).f1 == (J70 b (j : Int)).f1) = true
    · rw [h, Bool.true_and]
      refine Ev.succ (ih.congr fun k => ?_)
      simp only [larchref05_SamePairs.l0]
      simp only [Bool.and_eq_true, beq_iff_eq] at h
      rw [if_pos (by omega), if_pos (by omega), if_pos (by omega), if_neg (by simp [h.1, h.2]), wrap_succ (by omega)]
    · have h' : ((J70 a (j : Int)).f0 == (J70 b (j : Int)).f0 && (J70 a (j : Int)).f1 == (J70 b (j : Int)).f1) = false := by simpa using h
      rw [h', Bool.false_and]
      refine Ev.succ ((Ev.const false).congr fun k => ?_)
      simp only [larchref05_SamePairs.l0]
      rw [if_pos (by omega), if_pos (by omega), if_pos (by omega), if_pos]
      rw [← Bool.not_and, h']
      rfl
theorem sameRet_ev (a b : S36) (ha : a.f3.length ≤ 1048576) : Ev (fun k => larchref05_SameRet.f k a.f0 a.f1 a.f2 a.f3 b.f0 b.f1 b.f2 b.f3) (sameRetB a b) := by
  unfold larchref05_SameRet.f sameRetB
  by_cases h0 : a.f0 = b.f0
  · by_cases h1 : a.f1 = b.f1
    · by_cases h2 : a.f2 = b.f2
      · have main : Ev (fun k => larchref05_SamePairs.f k a.f3 b.f3) (decide (a.f3.length = b.f3.length) && pairsGo a.f3 b.f3 a.f3.length 0) := by
          unfold larchref05_SamePairs.f
          by_cases h3 : a.f3.length = b.f3.length
          · rw [decide_eq_true h3, Bool.true_and]
            refine (samePairs_go a.f3 b.f3 h3 ha a.f3.length 0 (by omega)).congr fun k => ?_
            rw [if_pos (by omega)]
            rfl
          · rw [decide_eq_false h3, Bool.false_and]
            refine (Ev.const false).congr fun k => ?_
            rw [if_neg (by omega)]
        refine Ev.congr' (g := fun k => (larchref05_SamePairs.f k a.f3 b.f3).bind fun t => some t) (Ev.bind main (Ev.const _)) (by simp [h0, h1, h2]) fun k => ?_
        simp [h0, h1, h2]
      · exact (Ev.const false).congr' (by simp [h2]) fun k => by simp [h0, h1, h2]
    · exact (Ev.const false).congr' (by simp [h1]) fun k => by simp [h0, h1]
  · exact (Ev.const false).congr' (by simp [h0]) fun k => by simp [h0]
theorem sameEvent_ev (a b : S67) (ha : a.f3.f3.length ≤ 1048576) : Ev (fun k => larchref05_sameEvent.f k a.f0 a.f1 a.f2.f0 a.f2.f1 a.f2.f2 a.f2.f3 a.f3.f0 a.f3.f1 a.f3.f2 a.f3.f3 b.f0 b.f1 b.f2.f0 b.f2.f1 b.f2.f2 b.f2.f3 b.f3.f0 b.f3.f1 b.f3.f2 b.f3.f3) (a.f0 == b.f0 && evSame a b) := by
  unfold larchref05_sameEvent.f evSame
  by_cases h0 : a.f0 = b.f0
  · by_cases h1 : a.f1 = b.f1
    · by_cases h2 : opSame a.f2 b.f2 = true
      · refine Ev.congr' (g := fun k => (larchref05_SameRet.f k a.f3.f0 a.f3.f1 a.f3.f2 a.f3.f3 b.f3.f0 b.f3.f1 b.f3.f2 b.f3.f3).bind fun t => some t) (Ev.bind (sameRet_ev a.f3 b.f3 ha) (Ev.const _)) (by simp [h0, h1, h2]) fun k => ?_
        unfold opSame at h2
        rw [if_pos h0, if_pos (by simp [h1]), if_pos h2]
      · refine (Ev.const false).congr' (by simp [h2]) fun k => ?_
        unfold opSame at h2
        rw [if_pos h0, if_pos (by simp [h1]), if_neg h2]
    · exact (Ev.const false).congr' (by simp [h1]) fun k => by rw [if_pos h0, if_neg (by simpa using h1)]
  · exact (Ev.const false).congr' (by simp [h0]) fun k => by rw [if_neg h0]
def seGo (xs ys : List S67) : Nat → Nat → Bool
  | 0, _ => true
  | d + 1, j => ((J67 xs (j : Int)).f0 == (J67 ys (j : Int)).f0 && evSame (J67 xs (j : Int)) (J67 ys (j : Int))) && seGo xs ys d (j + 1)
def seB (xs ys : List S67) : Bool := decide (xs.length = ys.length) && seGo xs ys xs.length 0
theorem se_go (xs ys : List S67) (hl : xs.length = ys.length) (hx : xs.length ≤ 100000) (hp : ∀ e ∈ xs, e.f3.f3.length ≤ 1048576) : ∀ d (j : Nat), j + d = xs.length → Ev (fun k => larchref05_SameEvents.l0 k xs ys (j : Int)) (seGo xs ys d j)
  | 0, j, hd => by
    refine Ev.succ ((Ev.const true).congr fun k => ?_)
    simp only [larchref05_SameEvents.l0]
    rw [if_neg (by omega)]
  | d + 1, j, hd => by
    have ih := se_go xs ys hl hx hp d (j + 1) (by omega)
    have hs := sameEvent_ev (J67 xs (j : Int)) (J67 ys (j : Int)) (hp _ (rd67_mem xs j (by omega)))
    unfold seGo
    obtain ⟨b, hb⟩ : ∃ b, ((J67 xs (j : Int)).f0 == (J67 ys (j : Int)).f0 && evSame (J67 xs (j : Int)) (J67 ys (j : Int))) = b := ⟨_, rfl⟩
    rw [hb] at hs ⊢
    refine Ev.succ (Ev.congr (g := fun k => (larchref05_sameEvent.f k (J67 xs (j : Int)).f0 (J67 xs (j : Int)).f1 (J67 xs (j : Int)).f2.f0 (J67 xs (j : Int)).f2.f1 (J67 xs (j : Int)).f2.f2 (J67 xs (j : Int)).f2.f3 (J67 xs (j : Int)).f3.f0 (J67 xs (j : Int)).f3.f1 (J67 xs (j : Int)).f3.f2 (J67 xs (j : Int)).f3.f3 (J67 ys (j : Int)).f0 (J67 ys (j : Int)).f1 (J67 ys (j : Int)).f2.f0 (J67 ys (j : Int)).f2.f1 (J67 ys (j : Int)).f2.f2 (J67 ys (j : Int)).f2.f3 (J67 ys (j : Int)).f3.f0 (J67 ys (j : Int)).f3.f1 (J67 ys (j : Int)).f3.f2 (J67 ys (j : Int)).f3.f3).bind fun t272 => if t272 = true then larchref05_SameEvents.l0 k xs ys (((j + 1 : Nat) : Int)) else some false) ?_ fun k => ?_)
    · refine Ev.bind hs ?_
      cases b with
      | true => simpa using ih
      | false => simpa using Ev.const false
    · simp only [larchref05_SameEvents.l0]
      rw [if_pos (by omega), if_pos (by omega), if_pos (by omega), wrap_succ (by omega)]
theorem se_ev (xs ys : List S67) (hx : xs.length ≤ 100000) (hp : ∀ e ∈ xs, e.f3.f3.length ≤ 1048576) : Ev (fun k => larchref05_SameEvents.f k xs ys) (seB xs ys) := by
  unfold larchref05_SameEvents.f seB
  by_cases h : xs.length = ys.length
  · rw [decide_eq_true h, Bool.true_and]
    refine (se_go xs ys h hx hp xs.length 0 (by omega)).congr fun k => ?_
    rw [if_pos (by omega)]
    rfl
  · rw [decide_eq_false h, Bool.false_and]
    refine (Ev.const false).congr fun k => ?_
    rw [if_neg (by omega)]
theorem se_thread (xs ys : List S67) (t : Int) (hx : ∀ e ∈ xs, e.f0 = t) (hy : ∀ e ∈ ys, e.f0 = t) : seB xs ys = eqB xs ys := by
  unfold seB eqB
  by_cases h : xs.length = ys.length
  · rw [decide_eq_true h, Bool.true_and, Bool.true_and]
    have go : ∀ d (j : Nat), j + d = xs.length → seGo xs ys d j = eqGo xs ys d j := by
      intro d
      induction d with
      | zero => intro j _; rfl
      | succ d ih =>
        intro j hd
        unfold seGo eqGo
        rw [ih (j + 1) (by omega), hx _ (rd67_mem xs j (by omega)), hy _ (rd67_mem ys j (by omega))]
        simp
    exact go xs.length 0 (by omega)
  · rw [decide_eq_false h, Bool.false_and, Bool.false_and]
theorem keptL_thread (l0 : List S67) (t : Int) : ∀ d (j : Nat) (out : List S67), (∀ e ∈ out, e.f0 = t) → ∀ e ∈ keptL (ofP l0 t) l0 d j out, e.f0 = t
  | 0, _, _, h, e, he => h e he
  | d + 1, j, out, h, e, he => by
    unfold keptL at he
    split at he
    · rename_i hp
      refine keptL_thread l0 t d (j + 1) _ (fun x hx => ?_) e he
      rcases List.mem_append.1 hx with h1 | h1
      · exact h x h1
      · simp at h1
        rw [h1]
        unfold ofP at hp
        simpa using hp
    · exact keptL_thread l0 t d (j + 1) out h e he
theorem keptL_len (p : Nat → Bool) (l0 : List S67) : ∀ d (j : Nat) (out : List S67), (keptL p l0 d j out).length ≤ out.length + d
  | 0, _, _ => Nat.le_refl _
  | d + 1, j, out => by
    unfold keptL
    split
    · have := keptL_len p l0 d (j + 1) (out ++ [J67 l0 (j : Int)])
      simp at this
      omega
    · have := keptL_len p l0 d (j + 1) out
      omega
theorem same_go (l0 l1 : List S67) (hO0 : ∀ t, Ev (fun k => larchref05_Of.f k l0 t) (keptL (ofP l0 t) l0 l0.length 0 [], 0)) (hO1 : ∀ t, Ev (fun k => larchref05_Of.f k l1 t) (keptL (ofP l1 t) l1 l1.length 0 [], 0)) (hl : l0.length ≤ 100000) (hp : ∀ e ∈ l0, e.f3.f3.length ≤ 1048576) : ∀ d (t : Nat), t + d = 64 → Ev (fun k => larchref05_Same.l0 k l0 l1 (t : Int)) (sameGo l0 l1 d t, 0)
  | 0, t, hd => by
    refine Ev.succ ((Ev.const (true, 0)).congr fun k => ?_)
    simp only [larchref05_Same.l0]
    rw [if_neg (by omega)]
  | d + 1, t, hd => by
    have ih := same_go l0 l1 hO0 hO1 hl hp d (t + 1) (by omega)
    have hlen := keptL_len (ofP l0 (t : Int)) l0 l0.length 0 []
    have hs := se_ev (keptL (ofP l0 (t : Int)) l0 l0.length 0 []) (keptL (ofP l1 (t : Int)) l1 l1.length 0 []) (by simp at hlen; omega) (fun e he => by
      rcases keptL_mem _ l0 l0.length 0 [] (by omega) e he with h | h
      · simp at h
      · exact hp e h)
    rw [se_thread _ _ (t : Int) (keptL_thread l0 t _ _ _ (by simp)) (keptL_thread l1 t _ _ _ (by simp))] at hs
    unfold sameGo
    obtain ⟨b, hb⟩ : ∃ b, eqB (keptL (ofP l0 (t : Int)) l0 l0.length 0 []) (keptL (ofP l1 (t : Int)) l1 l1.length 0 []) = b := ⟨_, rfl⟩
    rw [hb] at hs ⊢
    refine Ev.succ (Ev.congr (g := fun k => (larchref05_Of.f k l0 (t : Int)).bind fun bt275 => (larchref05_Of.f k l1 (t : Int)).bind fun bt279 => (larchref05_SameEvents.f k bt275.1 bt279.1).bind fun t283 => if t283 = true then larchref05_Same.l0 k l0 l1 (((t + 1 : Nat) : Int)) else some (false, 0)) ?_ fun k => ?_)
    · refine Ev.bind (hO0 t) (Ev.bind (hO1 t) (Ev.bind hs ?_))
      cases b with
      | true => simpa using ih
      | false => simpa using Ev.const (false, (0 : Int))
    · simp only [larchref05_Same.l0]
      rw [if_pos (by omega), wrap_succ (by omega)]
theorem same_both (l0 l1 : List S67) (hp0 : ∀ e ∈ l0, e.f3.f3.length ≤ 1048576) (hp1 : ∀ e ∈ l1, e.f3.f3.length ≤ 1048576) : ∃ (v : Bool) (c : Int), event_Same.f l0 l1 = some (v, c) ∧ Ev (fun k => larchref05_Same.f k l0 l1) (v, c) := by
  obtain ⟨c0, hE0, hR0, h00⟩ := check_both l0
  obtain ⟨c1, hE1, hR1, h01⟩ := check_both l1
  have bad : ∀ c : Int, c ≠ 0 → Ev (fun k => larchref05_Same.j0 k l0 l1 c) (false, c) := fun c hc => Ev.succ ((Ev.const _).congr fun k => by simp only [larchref05_Same.j0]; rw [if_neg hc])
  by_cases e0 : c0 = 0
  rotate_left
  · refine ⟨false, c0, ?_, ?_⟩
    · unfold event_Same.f
      rw [hE0]
      simp only [Option.bind_some, if_neg e0]
    · unfold larchref05_Same.f
      refine Ev.bind hR0 ?_
      simp only [if_neg e0]
      exact bad c0 e0
  subst e0
  by_cases e1 : c1 = 0
  rotate_left
  · refine ⟨false, c1, ?_, ?_⟩
    · unfold event_Same.f
      rw [hE0]
      simp only [Option.bind_some, if_true]
      rw [hE1]
      simp only [Option.bind_some, if_neg e1]
    · unfold larchref05_Same.f
      refine Ev.bind hR0 ?_
      simp only [if_true]
      exact Ev.bind hR1 (bad c1 e1)
  subst e1
  obtain ⟨hl0, -⟩ := h00 rfl
  obtain ⟨hl1, -⟩ := h01 rfl
  have hO : ∀ (l : List S67), event_Check.f l = some 0 → (∀ e ∈ l, e.f3.f3.length ≤ 1048576) → ∀ t, Ev (fun k => larchref05_Of.f k l t) (keptL (ofP l t) l l.length 0 [], 0) := by
    intro l hE hp t
    obtain ⟨c, hE', hR', h0'⟩ := check_both l
    rw [hE] at hE'
    cases hE'
    obtain ⟨hl, -⟩ := h0' rfl
    unfold larchref05_Of.f
    refine Ev.bind hR' ?_
    simp only [if_true]
    exact of_go l t hl hp l.length 0 [] (by omega) (by simp) (by simp)
  refine ⟨sameGo l0 l1 64 0, 0, ?_, ?_⟩
  · unfold event_Same.f
    rw [hE0]
    simp only [Option.bind_some, if_true]
    rw [hE1]
    simp only [Option.bind_some, if_true]
    rw [if_pos ⟨⟨hl0, hp0⟩, hl1, hp1⟩]
  · unfold larchref05_Same.f
    refine Ev.bind hR0 ?_
    simp only [if_true]
    refine Ev.bind hR1 ?_
    refine Ev.succ ((same_go l0 l1 (hO l0 hE0 hp0) (hO l1 hE1 hp1) hl0 hp0 64 0 (by omega)).congr fun k => ?_)
    simp only [larchref05_Same.j0]
    rw [if_pos trivial]
    rfl
theorem same_pure : EventSamePure := by
  intro l0 l1 hl0 hp0 hl1 hp1
  refine Ev.ex (f := fun k => larchlaw05_EventSame.f k l0 l1) ?_
  unfold larchlaw05_EventSame.f
  rw [known_ok3]
  simp only [Option.bind_some, if_true]
  obtain ⟨v, c, hE, hR⟩ := same_both l0 l1 hp0 hp1
  refine Ev.bind hR ?_
  rw [hE]
  simp only [Option.bind_some, beq_self_eq_true, if_true]
  exact Ev.const _
theorem eventSame_holds : Rows.EventSameUptoSaid := EventSame_of same_pure
end Go.Proofs.Ytagdkmcgepidoaa.P
#print axioms Go.Proofs.Ytagdkmcgepidoaa.P.eventSame_holds
