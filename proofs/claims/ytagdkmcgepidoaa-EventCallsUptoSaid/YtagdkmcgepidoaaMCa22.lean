/- P.eventCalls_holds, part 23 of 31: the contracts of the Go functions that the law calls, its own walk, and its plain law, for every input that the statement speaks of. -/
import Derived.Test.YtagdkmcgepidoaaMCa13
import Derived.Test.YtagdkmcgepidoaaMCa11
import Derived.Test.YtagdkmcgepidoaaMCa14
import Derived.Test.YtagdkmcgepidoaaMCa21
import Derived.Test.YtagdkmcgepidoaaMCa4
import Derived.Test.YtagdkmcgepidoaaMCa7
import Derived.Test.YtagdkmcgepidoaaMCa9
import Derived.Test.YtagdkmcgepidoaaMCa10
import Derived.Test.YtagdkmcgepidoaaMCa12
import Derived.Test.YtagdkmcgepidoaaMCa18
set_option linter.unusedVariables false
set_option linter.unusedSimpArgs false
/- P3 -/
namespace Go.Proofs.Ytagdkmcgepidoaa.P
open Go.RowKit Go.Proofs.YtagdkmcgepidoaaW.PrintWords Go.Proofs.YtagdkmcgepidoaaW.PrintLast Go.Proofs.YtagdkmcgepidoaaW.PrintMore
theorem known_ok3 : larchlaw05_known.f = some true := by kernel_rfl
theorem rd67_mem (l : List S67) (j : Nat) (h : j < l.length) : J67 l (j : Int) ∈ l := by
  unfold J67
  rw [Int.toNat_natCast, List.getD_eq_getElem?_getD, List.getElem?_eq_getElem h]
  exact List.getElem_mem _
theorem drop67 (l : List S67) (j : Nat) (h : j < l.length) : l.drop j = J67 l (j : Int) :: l.drop (j + 1) := by
  rw [List.drop_eq_getElem_cons h]
  unfold J67
  rw [Int.toNat_natCast, List.getD_eq_getElem?_getD, List.getElem?_eq_getElem h]
  rfl
theorem samePairs_go (a b : List S70) (hl : a.length = b.length) (ha : a.length ≤ 1048576) : ∀ d (j : Nat), j + d = a.length → Ev (fun k => larchref05_SamePairs.l0 k a b (j : Int)) (pairsGo a b d j)
  | 0, j, hd => by
    refine Ev.succ ((Ev.const true).congr fun k => ?_)
    simp only [larchref05_SamePairs.l0]
    rw [if_neg (by omega)]
  | d + 1, j, hd => by
    have ih := samePairs_go a b hl ha d (j + 1) (by omega)
    unfold pairsGo
    by_cases h : ((J70 a (j : Int)).f0 == (J70 b (j : Int)).f0 && (J70 a (j : Int)).f1 == (J70 b (j : Int)).f1) = true
    · rw [h, Bool.true_and]
      refine Ev.succ (ih.congr fun k => ?_)
      simp only [larchref05_SamePairs.l0]
      simp only [Bool.and_eq_true, beq_iff_eq] at h
      rw [if_pos (by omega), if_pos (by omega), if_pos (by omega), if_neg (by simp [h.1, h.2]), wrap_succ (by omega)]
    · have h' : ((J70 a (j : Int)).f0 == (J70 b (j : Int)).f0 && (J70 a (j : Int)).f1 == (J70 b (j : Int)).f1) = false := by simpa using h
      rw [h', Bool.false_and]
      refine Ev.succ ((Ev.const false).congr fun k => ?_)
      simp only [larchref05_SamePairs.l0]
      rw [if_pos (by omega), if_pos (by omega), if_pos (by omega), if_pos]
      rw [← Bool.not_and, h']
      rfl
theorem sameRet_ev (a b : S36) (ha : a.f3.length ≤ 1048576) : Ev (fun k => larchref05_SameRet.f k a.f0 a.f1 a.f2 a.f3 b.f0 b.f1 b.f2 b.f3) (sameRetB a b) := by
  unfold larchref05_SameRet.f sameRetB
  by_cases h0 : a.f0 = b.f0
  · by_cases h1 : a.f1 = b.f1
    · by_cases h2 : a.f2 = b.f2
      · have main : Ev (fun k => larchref05_SamePairs.f k a.f3 b.f3) (decide (a.f3.length = b.f3.length) && pairsGo a.f3 b.f3 a.f3.length 0) := by
          unfold larchref05_SamePairs.f
          by_cases h3 : a.f3.length = b.f3.length
          · rw [decide_eq_true h3, Bool.true_and]
            refine (samePairs_go a.f3 b.f3 h3 ha a.f3.length 0 (by omega)).congr fun k => ?_
            rw [if_pos (by omega)]
            rfl
          · rw [decide_eq_false h3, Bool.false_and]
            refine (Ev.const false).congr fun k => ?_
            rw [if_neg (by omega)]
        refine Ev.congr' (g := fun k => (larchref05_SamePairs.f k a.f3 b.f3).bind fun t => some t) (Ev.bind main (Ev.const _)) (by simp [h0, h1, h2]) fun k => ?_
        simp [h0, h1, h2]
      · exact (Ev.const false).congr' (by simp [h2]) fun k => by simp [h0, h1, h2]
    · exact (Ev.const false).congr' (by simp [h1]) fun k => by simp [h0, h1]
  · exact (Ev.const false).congr' (by simp [h0]) fun k => by simp [h0]
theorem sameEvent_ev (a b : S67) (ha : a.f3.f3.length ≤ 1048576) : Ev (fun k => larchref05_sameEvent.f k a.f0 a.f1 a.f2.f0 a.f2.f1 a.f2.f2 a.f2.f3 a.f3.f0 a.f3.f1 a.f3.f2 a.f3.f3 b.f0 b.f1 b.f2.f0 b.f2.f1 b.f2.f2 b.f2.f3 b.f3.f0 b.f3.f1 b.f3.f2 b.f3.f3) (a.f0 == b.f0 && evSame a b) := by
  unfold larchref05_sameEvent.f evSame
  by_cases h0 : a.f0 = b.f0
  · by_cases h1 : a.f1 = b.f1
    · by_cases h2 : opSame a.f2 b.f2 = true
      · refine Ev.congr' (g := fun k => (larchref05_SameRet.f k a.f3.f0 a.f3.f1 a.f3.f2 a.f3.f3 b.f3.f0 b.f3.f1 b.f3.f2 b.f3.f3).bind fun t => some t) (Ev.bind (sameRet_ev a.f3 b.f3 ha) (Ev.const _)) (by simp [h0, h1, h2]) fun k => ?_
        unfold opSame at h2
        rw [if_pos h0, if_pos (by simp [h1]), if_pos h2]
      · refine (Ev.const false).congr' (by simp [h2]) fun k => ?_
        unfold opSame at h2
        rw [if_pos h0, if_pos (by simp [h1]), if_neg h2]
    · exact (Ev.const false).congr' (by simp [h1]) fun k => by rw [if_pos h0, if_neg (by simpa using h1)]
  · exact (Ev.const false).congr' (by simp [h0]) fun k => by rw [if_neg h0]
def seGo (xs ys : List S67) : Nat → Nat → Bool
  | 0, _ => true
  | d + 1, j => ((J67 xs (j : Int)).f0 == (J67 ys (j : Int)).f0 && evSame (J67 xs (j : Int)) (J67 ys (j : Int))) && seGo xs ys d (j + 1)
def seB (xs ys : List S67) : Bool := decide (xs.length = ys.length) && seGo xs ys xs.length 0
theorem se_go (xs ys : List S67) (hl : xs.length = ys.length) (hx : xs.length ≤ 100000) (hp : ∀ e ∈ xs, e.f3.f3.length ≤ 1048576) : ∀ d (j : Nat), j + d = xs.length → Ev (fun k => larchref05_SameEvents.l0 k xs ys (j : Int)) (seGo xs ys d j)
  | 0, j, hd => by
    refine Ev.succ ((Ev.const true).congr fun k => ?_)
    simp only [larchref05_SameEvents.l0]
    rw [if_neg (by omega)]
  | d + 1, j, hd => by
    have ih := se_go xs ys hl hx hp d (j + 1) (by omega)
    have hs := sameEvent_ev (J67 xs (j : Int)) (J67 ys (j : Int)) (hp _ (rd67_mem xs j (by omega)))
    unfold seGo
    obtain ⟨b, hb⟩ : ∃ b, ((J67 xs (j : Int)).f0 == (J67 ys (j : Int)).f0 && evSame (J67 xs (j : Int)) (J67 ys (j : Int))) = b := ⟨_, rfl⟩
    rw [hb] at hs ⊢
    refine Ev.succ (Ev.congr (g := fun k => (larchref05_sameEvent.f k (J67 xs (j : Int)).f0 (J67 xs (j : Int)).f1 (J67 xs (j : Int)).f2.f0 (J67 xs (j : Int)).f2.f1 (J67 xs (j : Int)).f2.f2 (J67 xs (j : Int)).f2.f3 (J67 xs (j : Int)).f3.f0 (J67 xs (j : Int)).f3.f1 (J67 xs (j : Int)).f3.f2 (J67 xs (j : Int)).f3.f3 (J67 ys (j : Int)).f0 (J67 ys (j : Int)).f1 (J67 ys (j : Int)).f2.f0 (J67 ys (j : Int)).f2.f1 (J67 ys (j : Int)).f2.f2 (J67 ys (j : Int)).f2.f3 (J67 ys (j : Int)).f3.f0 (J67 ys (j : Int)).f3.f1 (J67 ys (j : Int)).f3.f2 (J67 ys (j : Int)).f3.f3).bind fun t272 => if t272 = true then larchref05_SameEvents.l0 k xs ys (((j + 1 : Nat) : Int)) else some false) ?_ fun k => ?_)
    · refine Ev.bind hs ?_
      cases b with
      | true => simpa using ih
      | false => simpa using Ev.const false
    · simp only [larchref05_SameEvents.l0]
      rw [if_pos (by omega), if_pos (by omega), if_pos (by omega), wrap_succ (by omega)]
theorem se_ev (xs ys : List S67) (hx : xs.length ≤ 100000) (hp : ∀ e ∈ xs, e.f3.f3.length ≤ 1048576) : Ev (fun k => larchref05_SameEvents.f k xs ys) (seB xs ys) := by
  unfold larchref05_SameEvents.f seB
  by_cases h : xs.length = ys.length
  · rw [decide_eq_true h, Bool.true_and]
    refine (se_go xs ys h hx hp xs.length 0 (by omega)).congr fun k => ?_
    rw [if_pos (by omega)]
    rfl
  · rw [decide_eq_false h, Bool.false_and]
    refine (Ev.const false).congr fun k => ?_
    rw [if_neg (by omega)]
end Go.Proofs.Ytagdkmcgepidoaa.P
/- P4 -/
namespace Go.Proofs.Ytagdkmcgepidoaa.P
open Go.RowKit Go.Proofs.YtagdkmcgepidoaaW.PrintWords Go.Proofs.YtagdkmcgepidoaaW.PrintLast Go.Proofs.YtagdkmcgepidoaaW.PrintMore
theorem chk_step {l0 : List S67} {d j : Nat} {op : List Bool} {ops : List S33} (h : chkGo l0 (d + 1) j op ops = 0) :
    (0 ≤ (J67 l0 (j : Int)).f0 ∧ (J67 l0 (j : Int)).f0 < 64) ∧ (J67 l0 (j : Int)).f1 = rdOf false op (J67 l0 (j : Int)).f0 ∧ evOk (J67 l0 (j : Int)) ops = true ∧ chkGo l0 d (j + 1) (op.set (J67 l0 (j : Int)).f0.toNat (!(J67 l0 (j : Int)).f1)) (ops.set (J67 l0 (j : Int)).f0.toNat (J67 l0 (j : Int)).f2) = 0 := by
  unfold chkGo at h
  split at h
  · omega
  rename_i h1
  split at h
  rotate_left
  · omega
  rename_i h2
  exact ⟨by omega, Decidable.byContradiction fun hh => h1 (.inr (.inr hh)), h2, h⟩
theorem rd38_set (x : List S38) (a i : Int) (v : S38) (ha : 0 ≤ a ∧ a < x.length) (hi : 0 ≤ i) : J38 (x.set a.toNat v) i = if i = a then v else J38 x i := by
  unfold J38
  rw [List.getD_eq_getElem?_getD, List.getElem?_set]
  by_cases e : i = a
  · subst e
    rw [if_pos rfl, if_pos (by omega), if_pos rfl]
    rfl
  · rw [if_neg (by omega), if_neg e, List.getD_eq_getElem?_getD]
theorem rd38_app (x : List S38) (v : S38) (i : Int) (hi : 0 ≤ i ∧ i ≤ x.length) : J38 (x ++ [v]) i = if i = x.length then v else J38 x i := by
  unfold J38
  rw [List.getD_eq_getElem?_getD]
  by_cases e : i = x.length
  · rw [if_pos e, List.getElem?_append_right (by omega), show i.toNat - x.length = 0 by omega]
    rfl
  · rw [if_neg e, List.getElem?_append_left (by omega), List.getD_eq_getElem?_getD]
structure Own (out : List S38) (j : Nat) (own : Nat → Int) : Prop where
  fr : ∀ q : Int, 0 ≤ q → q < out.length → (0 ≤ (J38 out q).f3 ∧ (J38 out q).f3 < j) ∧ own (J38 out q).f3.toNat = q
  tw : ∀ q : Int, 0 ≤ q → q < out.length → (J38 out q).f4 = -1 ∨ ((0 ≤ (J38 out q).f4 ∧ (J38 out q).f4 < j) ∧ own (J38 out q).f4.toNat = q)
  al : ∀ i : Nat, i < j → (0 ≤ own i ∧ own i < out.length) ∧ ((J38 out (own i)).f3 = i ∨ (J38 out (own i)).f4 = i)
  lt : ∀ q : Int, 0 ≤ q → q < out.length → (J38 out q).f4 = -1 ∨ (J38 out q).f3 < (J38 out q).f4
def resp (l0 : List S67) (p : Nat → Bool) : Nat → Nat → (Int → Bool) → Prop
  | 0, _, _ => True
  | d + 1, j, lp => if (J67 l0 (j : Int)).f1 = true then p j = lp (J67 l0 (j : Int)).f0 ∧ resp l0 p d (j + 1) lp else resp l0 p d (j + 1) (fun t => if t = (J67 l0 (j : Int)).f0 then p j else lp t)
def ow (l0 : List S67) (own : Nat → Int) : Nat → Nat → List Int → Nat → Prop
  | 0, _, _, _ => True
  | d + 1, j, last, m => if (J67 l0 (j : Int)).f1 = true then own j = rd last (J67 l0 (j : Int)).f0 ∧ ow l0 own d (j + 1) last m else own j = (m : Int) ∧ ow l0 own d (j + 1) (last.set (J67 l0 (j : Int)).f0.toNat (m : Int)) (m + 1)
theorem own_go (l0 : List S67) : ∀ d (j : Nat) (op : List Bool) (ops : List S33) (last : List Int) (out r : List S38) (own : Nat → Int), op.length = 64 → last.length = 64 → chkGo l0 d j op ops = 0 →
    (∀ t : Int, 0 ≤ t → t < 64 → rdOf false op t = true → (0 ≤ rd last t ∧ rd last t < out.length) ∧ (J38 out (rd last t)).f0 = t ∧ (J38 out (rd last t)).f4 = -1) → Own out j own → callsGo l0 d j last out = some r →
    ∃ own' : Nat → Int, (∀ i, i < j → own' i = own i) ∧ Own r (j + d) own' ∧ (∀ g : Int → Bool, ∀ lp : Int → Bool, (∀ t : Int, 0 ≤ t → t < 64 → lp t = g (rd last t)) → resp l0 (fun i => g (own' i)) d j lp) ∧ ow l0 own' d j last out.length
  | 0, j, op, ops, last, out, r, own, _, _, _, _, hO, hr => by
    simp only [callsGo, Option.some.injEq] at hr
    subst hr
    exact ⟨own, fun _ _ => rfl, hO, fun _ _ _ => trivial, trivial⟩
  | d + 1, j, op, ops, last, out, r, own, h1, h2, hc, hop, hO, hr => by
    obtain ⟨hf, hf1, -, hc'⟩ := chk_step hc
    obtain ⟨e, he⟩ : ∃ e, e = J67 l0 (j : Int) := ⟨_, rfl⟩
    simp only [callsGo, ← he] at hr
    rw [← he] at hf hf1 hc'
    rw [if_pos hf] at hr
    by_cases hb : e.f1 = true
    · obtain ⟨hq, hq0, hq4⟩ := hop e.f0 hf.1 hf.2 (by rw [← hf1]; exact hb)
      obtain ⟨q, hqe⟩ : ∃ q, q = rd last e.f0 := ⟨_, rfl⟩
      rw [if_pos hb] at hr
      rw [← hqe] at hq hq0 hq4 hr
      split at hr
      rotate_left
      · cases hr
      rename_i hg
      obtain ⟨v, hv⟩ : ∃ v : S38, v = ⟨(J38 out q).f0, (J38 out q).f1, e.f3, (J38 out q).f3, (j : Int)⟩ := ⟨_, rfl⟩
      rw [← hv] at hr
      have hv0 : v.f0 = e.f0 := by rw [hv]; exact hq0
      have hv3 : v.f3 = (J38 out q).f3 := by rw [hv]
      have hv4 : v.f4 = (j : Int) := by rw [hv]
      clear hv hg
      have rs : ∀ i : Int, 0 ≤ i → J38 (out.set q.toNat v) i = if i = q then v else J38 out i := fun i hi => rd38_set out q i v hq hi
      have hO' : Own (out.set q.toNat v) (j + 1) (fun i => if i = j then q else own i) := by
        refine ⟨fun i i0 i1 => ?_, fun i i0 i1 => ?_, fun i hi => ?_, fun i i0 i1 => ?_⟩
        rotate_left 3
        · rw [List.length_set] at i1
          rw [rs i i0]
          by_cases e1 : i = q
          · subst e1
            rw [if_pos rfl, hv3, hv4]
            exact .inr (hO.fr i i0 i1).1.2
          · rw [if_neg e1]
            exact hO.lt i i0 i1
        · rw [List.length_set] at i1
          rw [rs i i0]
          obtain ⟨a, b⟩ := hO.fr i i0 i1
          by_cases e1 : i = q
          · subst e1
            rw [if_pos rfl, hv3]
            exact ⟨by omega, by rw [if_neg (by omega)]; exact b⟩
          · rw [if_neg e1]
            exact ⟨by omega, by rw [if_neg (by omega)]; exact b⟩
        · rw [List.length_set] at i1
          rw [rs i i0]
          by_cases e1 : i = q
          · subst e1
            rw [if_pos rfl, hv4]
            right
            exact ⟨by omega, by rw [if_pos (by omega)]⟩
          · rw [if_neg e1]
            rcases hO.tw i i0 i1 with a | ⟨a, b⟩
            · exact .inl a
            · exact .inr ⟨by omega, by rw [if_neg (by omega)]; exact b⟩
        · rw [List.length_set]
          by_cases e2 : i = j
          · rw [if_pos e2, rs q hq.1, if_pos rfl, hv4]
            exact ⟨hq, .inr (by omega)⟩
          · rw [if_neg e2]
            obtain ⟨a, b⟩ := hO.al i (by omega)
            rw [rs _ a.1]
            refine ⟨a, ?_⟩
            by_cases e1 : own i = q
            · rw [if_pos e1, hv3]
              rw [e1] at b
              rcases b with b | b
              · exact .inl b
              · omega
            · rw [if_neg e1]
              exact b
      obtain ⟨own', hp, hO2, hR, hW⟩ := own_go l0 d (j + 1) _ _ last _ r _ (by simpa using h1) h2 hc' (fun t t0 t1 ht => by
        rw [rdOf_set _ _ _ _ (by omega) t0] at ht
        by_cases e1 : t = e.f0
        · rw [if_pos e1, hb] at ht; simp at ht
        · rw [if_neg e1] at ht
          obtain ⟨a, b, c⟩ := hop t t0 t1 ht
          rw [List.length_set, rs _ a.1]
          have : rd last t ≠ q := fun hh => e1 (by rw [hh] at b; omega)
          rw [if_neg this]
          exact ⟨a, b, c⟩) hO' hr
      refine ⟨own', fun i hi => ?_, by rw [show j + (d + 1) = j + 1 + d by omega]; exact hO2, fun g lp hlp => ?_, ?_⟩
      · rw [hp i (by omega)]
        exact if_neg (by omega)
      · unfold resp
        rw [← he, if_pos hb]
        refine ⟨?_, hR g lp hlp⟩
        rw [hp j (by omega), hlp e.f0 hf.1 hf.2, ← hqe, if_pos rfl]
      · unfold ow
        rw [← he, if_pos hb]
        rw [List.length_set] at hW
        exact ⟨by rw [hp j (by omega), ← hqe, if_pos rfl], hW⟩
    · have hb' : e.f1 = false := by simpa using hb
      rw [if_neg hb] at hr
      split at hr
      rotate_left
      · cases hr
      obtain ⟨v, hv⟩ : ∃ v : S38, v = ⟨e.f0, e.f2, z36, (j : Int), -1⟩ := ⟨_, rfl⟩
      rw [← hv] at hr
      have hv0 : v.f0 = e.f0 := by rw [hv]
      have hv3 : v.f3 = (j : Int) := by rw [hv]
      have hv4 : v.f4 = -1 := by rw [hv]
      clear hv
      have rs : ∀ i : Int, 0 ≤ i ∧ i ≤ out.length → J38 (out ++ [v]) i = if i = out.length then v else J38 out i := fun i hi => rd38_app out v i hi
      have hO' : Own (out ++ [v]) (j + 1) (fun i => if i = j then (out.length : Int) else own i) := by
        refine ⟨fun i i0 i1 => ?_, fun i i0 i1 => ?_, fun i hi => ?_, fun i i0 i1 => ?_⟩
        rotate_left 3
        · rw [List.length_append, List.length_singleton] at i1
          rw [rs i (by omega)]
          by_cases e1 : i = out.length
          · rw [if_pos e1, hv4]
            exact .inl rfl
          · rw [if_neg e1]
            exact hO.lt i i0 (by omega)
        · rw [List.length_append, List.length_singleton] at i1
          rw [rs i (by omega)]
          by_cases e1 : i = out.length
          · rw [if_pos e1, hv3]
            exact ⟨by omega, by rw [if_pos (by omega)]; exact e1.symm⟩
          · rw [if_neg e1]
            obtain ⟨a, b⟩ := hO.fr i i0 (by omega)
            exact ⟨by omega, by rw [if_neg (by omega)]; exact b⟩
        · rw [List.length_append, List.length_singleton] at i1
          rw [rs i (by omega)]
          by_cases e1 : i = out.length
          · rw [if_pos e1, hv4]
            exact .inl rfl
          · rw [if_neg e1]
            rcases hO.tw i i0 (by omega) with a | ⟨a, b⟩
            · exact .inl a
            · exact .inr ⟨by omega, by rw [if_neg (by omega)]; exact b⟩
        · rw [List.length_append, List.length_singleton]
          by_cases e2 : i = j
          · rw [if_pos e2, rs _ (by omega), if_pos rfl, hv3]
            exact ⟨by omega, .inl (by omega)⟩
          · rw [if_neg e2]
            obtain ⟨a, b⟩ := hO.al i (by omega)
            rw [rs _ (by omega), if_neg (by omega)]
            exact ⟨by omega, b⟩
      obtain ⟨own', hp, hO2, hR, hW⟩ := own_go l0 d (j + 1) _ _ (last.set e.f0.toNat (out.length : Int)) _ r _ (by simpa using h1) (by simpa using h2) hc' (fun t t0 t1 ht => by
        rw [rdOf_set _ _ _ _ (by omega) t0] at ht
        rw [rd_set _ _ _ _ (by omega) t0, List.length_append, List.length_singleton]
        by_cases e1 : t = e.f0
        · rw [if_pos e1, rs _ (by omega), if_pos rfl, hv0, hv4]
          exact ⟨by omega, e1.symm, rfl⟩
        · rw [if_neg e1] at ht
          obtain ⟨a, b, c⟩ := hop t t0 t1 ht
          rw [if_neg e1, rs _ (by omega), if_neg (by omega)]
          exact ⟨by omega, b, c⟩) hO' hr
      refine ⟨own', fun i hi => ?_, by rw [show j + (d + 1) = j + 1 + d by omega]; exact hO2, fun g lp hlp => ?_, ?_⟩
      · rw [hp i (by omega)]
        exact if_neg (by omega)
      · unfold resp
        rw [← he, if_neg hb]
        refine hR g _ fun t t0 t1 => ?_
        rw [rd_set _ _ _ _ (by omega) t0, hp j (by omega), if_pos rfl]
        split
        · rfl
        · exact hlp t t0 t1
      · unfold ow
        rw [← he, if_neg hb]
        rw [List.length_append, List.length_singleton] at hW
        exact ⟨by rw [hp j (by omega), if_pos rfl], hW⟩
def chkL : List S67 → List Bool → List S33 → Int
  | [], _, _ => 0
  | e :: es, op, ops => if e.f0 < 0 ∨ e.f0 ≥ 64 ∨ e.f1 ≠ rdOf false op e.f0 then 3 else if evOk e ops = true then chkL es (op.set e.f0.toNat (!e.f1)) (ops.set e.f0.toNat e.f2) else 3
theorem chkGo_L (l0 : List S67) : ∀ d (j : Nat) (op : List Bool) (ops : List S33), j + d = l0.length → chkGo l0 d j op ops = chkL (l0.drop j) op ops
  | 0, j, op, ops, h => by rw [List.drop_eq_nil_of_le (by omega)]; rfl
  | d + 1, j, op, ops, h => by
    rw [drop67 l0 j (by omega)]
    unfold chkGo chkL
    rw [chkGo_L l0 d (j + 1) _ _ (by omega)]
theorem rdOf_rep (n : Nat) (t : Int) : rdOf false (List.replicate n false) t = false := by
  unfold rdOf
  rw [List.getD_eq_getElem?_getD, List.getElem?_replicate]
  split <;> rfl
theorem pairsGo_refl (a : List S70) : ∀ d j, pairsGo a a d j = true
  | 0, _ => rfl
  | d + 1, j => by unfold pairsGo; rw [pairsGo_refl a d (j + 1)]; simp
theorem evSame_refl (a : S67) : evSame a a = true := by
  unfold evSame sameRetB opSame
  simp [pairsGo_refl]
theorem seGo_refl (a : List S67) : ∀ d j, seGo a a d j = true
  | 0, _ => rfl
  | d + 1, j => by unfold seGo; rw [seGo_refl a d (j + 1), evSame_refl]; simp
theorem seB_refl (a : List S67) : seB a a = true := by
  unfold seB
  rw [seGo_refl]
  simp
end Go.Proofs.Ytagdkmcgepidoaa.P
/- P5 -/
namespace Go.Proofs.Ytagdkmcgepidoaa.P
open Go.RowKit Go.Proofs.YtagdkmcgepidoaaW.PrintWords Go.Proofs.YtagdkmcgepidoaaW.PrintLast Go.Proofs.YtagdkmcgepidoaaW.PrintMore
theorem all_of (l0 : List S67) (hp : ∀ e ∈ l0, e.f3.f3.length ≤ 1048576) (hE : event_Check.f l0 = some 0) : l0.length ≤ 100000 ∧ chkGo l0 l0.length 0 (List.replicate 64 false) (List.replicate 64 z33) = 0 ∧ ∃ (r : List S38) (own : Nat → Int),
    event_Calls.f l0 = some (r, 0) ∧ Ev (fun k => larchref05_Calls.f k l0) (r.map conv, 0) ∧ Ev (fun k => larchref05_calls.f k l0) (r.map conv) ∧ r.length ≤ l0.length ∧ Own r l0.length own ∧ ∀ g : Int → Bool, resp l0 (fun i => g (own i)) l0.length 0 (fun _ => g 0) := by
  obtain ⟨c, hc, hR, h0⟩ := check_both l0
  rw [hE] at hc
  cases hc
  obtain ⟨hl, hchk⟩ := h0 rfl
  obtain ⟨r, ha, hb, hk⟩ := calls_both l0 hl hp l0.length 0 (List.replicate 64 false) (List.replicate 64 z33) (List.replicate 64 0) [] (by omega) (by simp) (by simp) (by simp) hchk (fun i _ _ hi => by
    rw [rdOf_rep] at hi
    cases hi) (by simp) (by simp)
  obtain ⟨own, -, hO, hG, -⟩ := own_go l0 l0.length 0 (List.replicate 64 false) (List.replicate 64 z33) (List.replicate 64 0) [] r (fun _ => 0) (by simp) (by simp) hchk (fun t _ _ ht => by
    rw [rdOf_rep] at ht
    cases ht) ⟨fun q q0 q1 => by simp at q1; omega, fun q q0 q1 => by simp at q1; omega, fun i hi => by omega, fun q q0 q1 => by simp at q1; omega⟩ ha
  rw [Nat.zero_add] at hO
  have hcl : Ev (fun k => larchref05_calls.f k l0) (r.map conv) := hb.congr fun k => by
    unfold larchref05_calls.f
    rw [if_pos (by decide)]
    rfl
  refine ⟨hl, hchk, r, own, ?_, ?_, hcl, hk.len, hO, fun g => hG g _ fun t t0 t1 => ?_⟩
  · unfold event_Calls.f event_calls.f
    rw [hE]
    simp only [Option.bind_some, if_true]
    rw [ha]
    rfl
  · unfold larchref05_Calls.f
    refine Ev.bind hR ?_
    simp only [if_true]
    exact Ev.bind hcl (Ev.const _)
  · unfold rd
    rw [List.getD_eq_getElem?_getD, List.getElem?_replicate]
    split <;> rfl
theorem bad_of (l0 : List S67) (c : Int) (hE : event_Check.f l0 = some c) (h0 : c ≠ 0) : event_Calls.f l0 = some ([], c) ∧ Ev (fun k => larchref05_Calls.f k l0) ([], c) := by
  obtain ⟨c', hc, hR, -⟩ := check_both l0
  rw [hE] at hc
  cases hc
  refine ⟨?_, ?_⟩
  · unfold event_Calls.f
    rw [hE]
    simp only [Option.bind_some, if_neg h0]
  · unfold larchref05_Calls.f
    refine Ev.bind hR ?_
    simp only [if_neg h0]
    exact Ev.const _
end Go.Proofs.Ytagdkmcgepidoaa.P
/- P6 -/
namespace Go.Proofs.Ytagdkmcgepidoaa.P
open Go.RowKit Go.Proofs.YtagdkmcgepidoaaW.PrintWords Go.Proofs.YtagdkmcgepidoaaW.PrintLast Go.Proofs.YtagdkmcgepidoaaW.PrintMore
theorem rd38_mem' (r : List S38) (i : Int) (hi : 0 ≤ i ∧ i < r.length) : J38 r i ∈ r := by
  unfold J38
  rw [List.getD_eq_getElem?_getD, List.getElem?_eq_getElem (by omega)]
  exact List.getElem_mem _
end Go.Proofs.Ytagdkmcgepidoaa.P
/- P7 -/
namespace Go.Proofs.Ytagdkmcgepidoaa.P
open Go.RowKit Go.Proofs.YtagdkmcgepidoaaW.PrintWords Go.Proofs.YtagdkmcgepidoaaW.PrintLast Go.Proofs.YtagdkmcgepidoaaW.PrintMore
section
variable (xs : List S38)
def alK (s i : Nat) : Nat → Nat → Bool
  | 0, _ => true
  | d + 1, k => (k == i || (s.testBit k || !aheadB (J38 xs (k : Int)) (J38 xs (i : Int)))) && alK s i d (k + 1)
def okS (s i : Nat) : Bool := !s.testBit i && alK xs s i xs.length 0
end
end Go.Proofs.Ytagdkmcgepidoaa.P
/- P8 -/
namespace Go.Proofs.Ytagdkmcgepidoaa.P
open Go.RowKit Go.Proofs.YtagdkmcgepidoaaW.PrintWords Go.Proofs.YtagdkmcgepidoaaW.PrintLast Go.Proofs.YtagdkmcgepidoaaW.PrintMore
structure Seq (l0 : List S67) (out : List S38) (j : Nat) : Prop where
  bd : ∀ q : Int, 0 ≤ q → q < out.length → (0 ≤ (J38 out q).f3 ∧ (J38 out q).f3 < j) ∧ ((J38 out q).f4 = -1 ∨ (0 ≤ (J38 out q).f4 ∧ (J38 out q).f4 < j))
  mo : ∀ q q' : Int, 0 ≤ q → q < q' → q' < out.length → (J38 out q).f3 < (J38 out q').f3
  th : ∀ q q' : Int, 0 ≤ q → q < q' → q' < out.length → (J38 out q).f0 = (J38 out q').f0 → 0 ≤ (J38 out q).f4 ∧ (J38 out q).f4 < (J38 out q').f3
  e1 : ∀ i : Nat, i < j → (J67 l0 (i : Int)).f1 = true → ∃ q : Int, (0 ≤ q ∧ q < out.length) ∧ (J38 out q).f4 = i
  e0 : ∀ i : Nat, i < j → (J67 l0 (i : Int)).f1 = false → ∃ q : Int, (0 ≤ q ∧ q < out.length) ∧ (J38 out q).f3 = i
theorem seq_go (l0 : List S67) : ∀ d (j : Nat) (op : List Bool) (ops : List S33) (last : List Int) (out r : List S38), op.length = 64 → last.length = 64 → chkGo l0 d j op ops = 0 →
    (∀ t : Int, 0 ≤ t → t < 64 → rdOf false op t = true → (0 ≤ rd last t ∧ rd last t < out.length) ∧ (J38 out (rd last t)).f0 = t ∧ (J38 out (rd last t)).f4 = -1) →
    (∀ q : Int, 0 ≤ q → q < out.length → (J38 out q).f4 = -1 → (0 ≤ (J38 out q).f0 ∧ (J38 out q).f0 < 64) ∧ rdOf false op (J38 out q).f0 = true ∧ rd last (J38 out q).f0 = q) →
    Seq l0 out j → callsGo l0 d j last out = some r → Seq l0 r (j + d)
  | 0, j, op, ops, last, out, r, _, _, _, _, _, hS, hr => by
    simp only [callsGo, Option.some.injEq] at hr
    subst hr
    exact hS
  | d + 1, j, op, ops, last, out, r, h1, h2, hc, hop, hcl, hS, hr => by
    obtain ⟨hf, hf1, -, hc'⟩ := chk_step hc
    obtain ⟨e, he⟩ : ∃ e, e = J67 l0 (j : Int) := ⟨_, rfl⟩
    simp only [callsGo, ← he] at hr
    rw [← he] at hf hf1 hc'
    rw [if_pos hf] at hr
    rw [show j + (d + 1) = j + 1 + d by omega]
    by_cases hb : e.f1 = true
    · obtain ⟨hq, hq0, hq4⟩ := hop e.f0 hf.1 hf.2 (by rw [← hf1]; exact hb)
      obtain ⟨q, hqe⟩ : ∃ q, q = rd last e.f0 := ⟨_, rfl⟩
      rw [if_pos hb] at hr
      rw [← hqe] at hq hq0 hq4 hr
      split at hr
      rotate_left
      · cases hr
      rename_i hg
      obtain ⟨v, hv⟩ : ∃ v : S38, v = ⟨(J38 out q).f0, (J38 out q).f1, e.f3, (J38 out q).f3, (j : Int)⟩ := ⟨_, rfl⟩
      rw [← hv] at hr
      have hv0 : v.f0 = (J38 out q).f0 := by rw [hv]
      have hv3 : v.f3 = (J38 out q).f3 := by rw [hv]
      have hv4 : v.f4 = (j : Int) := by rw [hv]
      clear hv hg
      have rs : ∀ i : Int, 0 ≤ i → J38 (out.set q.toNat v) i = if i = q then v else J38 out i := fun i hi => rd38_set out q i v hq hi
      have r0 : ∀ i : Int, 0 ≤ i → (J38 (out.set q.toNat v) i).f0 = (J38 out i).f0 := fun i hi => by
        rw [rs i hi]
        by_cases e1 : i = q
        · rw [if_pos e1, hv0, e1]
        · rw [if_neg e1]
      have r3 : ∀ i : Int, 0 ≤ i → (J38 (out.set q.toNat v) i).f3 = (J38 out i).f3 := fun i hi => by
        rw [rs i hi]
        by_cases e1 : i = q
        · rw [if_pos e1, hv3, e1]
        · rw [if_neg e1]
      have r4 : ∀ i : Int, 0 ≤ i → (J38 (out.set q.toNat v) i).f4 = if i = q then (j : Int) else (J38 out i).f4 := fun i hi => by
        rw [rs i hi]
        by_cases e1 : i = q
        · rw [if_pos e1, if_pos e1, hv4]
        · rw [if_neg e1, if_neg e1]
      refine seq_go l0 d (j + 1) _ _ last _ r (by simpa using h1) h2 hc' (fun t t0 t1 ht => ?_) (fun i i0 i1 hi => ?_) ⟨fun i i0 i1 => ?_, fun i i' i0 i1 i2 => ?_, fun i i' i0 i1 i2 h => ?_, fun i hi hh => ?_, fun i hi hh => ?_⟩ hr
      · rw [rdOf_set _ _ _ _ (by omega) t0] at ht
        by_cases e1 : t = e.f0
        · rw [if_pos e1, hb] at ht; simp at ht
        · rw [if_neg e1] at ht
          obtain ⟨a, b, c⟩ := hop t t0 t1 ht
          rw [List.length_set, rs _ a.1]
          have : rd last t ≠ q := fun hh => e1 (by rw [hh] at b; omega)
          rw [if_neg this]
          exact ⟨a, b, c⟩
      · rw [List.length_set] at i1
        rw [r4 i i0] at hi
        by_cases e1 : i = q
        · rw [if_pos e1] at hi; omega
        · rw [if_neg e1] at hi
          obtain ⟨a, b, c⟩ := hcl i i0 i1 hi
          rw [r0 i i0]
          have ne : (J38 out i).f0 ≠ e.f0 := fun hh => e1 (by rw [hh, ← hqe] at c; exact c.symm)
          refine ⟨a, ?_, c⟩
          rw [rdOf_set _ _ _ _ (by omega) a.1, if_neg ne]
          exact b
      · rw [List.length_set] at i1
        obtain ⟨a, b⟩ := hS.bd i i0 i1
        rw [r3 i i0, r4 i i0]
        refine ⟨by omega, ?_⟩
        split
        · right; omega
        · omega
      · rw [List.length_set] at i2
        rw [r3 i i0, r3 i' (by omega)]
        exact hS.mo i i' i0 i1 i2
      · rw [List.length_set] at i2
        rw [r0 i i0, r0 i' (by omega)] at h
        have := hS.th i i' i0 i1 i2 h
        rw [r4 i i0, r3 i' (by omega)]
        by_cases e1 : i = q
        · rw [e1] at this; omega
        · rw [if_neg e1]
          exact this
      · by_cases e2 : i = j
        · exact ⟨q, by rw [List.length_set]; exact hq, by rw [r4 q hq.1, if_pos rfl, e2]⟩
        · obtain ⟨p, a, b⟩ := hS.e1 i (by omega) hh
          refine ⟨p, by rw [List.length_set]; exact a, ?_⟩
          rw [r4 p a.1, if_neg (fun hp => by rw [hp, hq4] at b; omega)]
          exact b
      · by_cases e2 : i = j
        · rw [e2, ← he, hb] at hh
          cases hh
        · obtain ⟨p, a, b⟩ := hS.e0 i (by omega) hh
          exact ⟨p, by rw [List.length_set]; exact a, by rw [r3 p a.1]; exact b⟩
    · have hb' : e.f1 = false := by simpa using hb
      rw [if_neg hb] at hr
      split at hr
      rotate_left
      · cases hr
      obtain ⟨v, hv⟩ : ∃ v : S38, v = ⟨e.f0, e.f2, z36, (j : Int), -1⟩ := ⟨_, rfl⟩
      rw [← hv] at hr
      have hv0 : v.f0 = e.f0 := by rw [hv]
      have hv3 : v.f3 = (j : Int) := by rw [hv]
      have hv4 : v.f4 = -1 := by rw [hv]
      clear hv
      have rs : ∀ i : Int, 0 ≤ i ∧ i ≤ out.length → J38 (out ++ [v]) i = if i = out.length then v else J38 out i := fun i hi => rd38_app out v i hi
      have rn : J38 (out ++ [v]) (out.length : Int) = v := by rw [rs _ (by omega), if_pos rfl]
      have ro : ∀ i : Int, 0 ≤ i → i < out.length → J38 (out ++ [v]) i = J38 out i := fun i a b => by rw [rs i (by omega), if_neg (by omega)]
      have hL : ((out ++ [v]).length : Int) = out.length + 1 := by simp
      refine seq_go l0 d (j + 1) _ _ (last.set e.f0.toNat (out.length : Int)) _ r (by simpa using h1) (by simpa using h2) hc' (fun t t0 t1 ht => ?_) (fun i i0 i1 hi => ?_) ⟨fun i i0 i1 => ?_, fun i i' i0 i1 i2 => ?_, fun i i' i0 i1 i2 h => ?_, fun i hi hh => ?_, fun i hi hh => ?_⟩ hr
      · rw [rdOf_set _ _ _ _ (by omega) t0] at ht
        rw [rd_set _ _ _ _ (by omega) t0, hL]
        by_cases e1 : t = e.f0
        · rw [if_pos e1, rn, hv0, hv4]
          exact ⟨by omega, e1.symm, rfl⟩
        · rw [if_neg e1] at ht
          obtain ⟨a, b, c⟩ := hop t t0 t1 ht
          rw [if_neg e1, ro _ a.1 a.2]
          exact ⟨by omega, b, c⟩
      · rw [hL] at i1
        by_cases e1 : i = out.length
        · rw [e1, rn, hv0, rdOf_set _ _ _ _ (by omega) hf.1, if_pos rfl, rd_set _ _ _ _ (by omega) hf.1, if_pos rfl, hb']
          exact ⟨hf, rfl, rfl⟩
        · rw [ro i i0 (by omega)] at hi ⊢
          obtain ⟨a, b, c⟩ := hcl i i0 (by omega) hi
          have ne : (J38 out i).f0 ≠ e.f0 := fun hh => by rw [hh, ← hf1, hb'] at b; cases b
          rw [rdOf_set _ _ _ _ (by omega) a.1, if_neg ne, rd_set _ _ _ _ (by omega) a.1, if_neg ne]
          exact ⟨a, b, c⟩
      · rw [hL] at i1
        by_cases e1 : i = out.length
        · rw [e1, rn, hv3, hv4]
          exact ⟨by omega, .inl rfl⟩
        · rw [ro i i0 (by omega)]
          have := hS.bd i i0 (by omega)
          omega
      · rw [hL] at i2
        by_cases e1 : i' = out.length
        · rw [e1, rn, hv3, ro i i0 (by omega)]
          exact (hS.bd i i0 (by omega)).1.2
        · rw [ro i' (by omega) (by omega), ro i i0 (by omega)]
          exact hS.mo i i' i0 i1 (by omega)
      · rw [hL] at i2
        by_cases e1 : i' = out.length
        · rw [e1, rn, hv0, ro i i0 (by omega)] at h
          rw [e1, rn, hv3, ro i i0 (by omega)]
          rcases (hS.bd i i0 (by omega)).2 with h4 | h4
          · obtain ⟨_, b, _⟩ := hcl i i0 (by omega) h4
            rw [h, ← hf1, hb'] at b
            cases b
          · exact h4
        · rw [ro i' (by omega) (by omega), ro i i0 (by omega)] at h ⊢
          exact hS.th i i' i0 i1 (by omega) h
      · by_cases e2 : i = j
        · rw [e2, ← he, hb'] at hh
          cases hh
        · obtain ⟨p, a, b⟩ := hS.e1 i (by omega) hh
          exact ⟨p, by rw [hL]; omega, by rw [ro p a.1 a.2]; exact b⟩
      · by_cases e2 : i = j
        · exact ⟨(out.length : Int), by rw [hL]; omega, by rw [rn, hv3, e2]⟩
        · obtain ⟨p, a, b⟩ := hS.e0 i (by omega) hh
          exact ⟨p, by rw [hL]; omega, by rw [ro p a.1 a.2]; exact b⟩
theorem seq_of (l0 : List S67) (r : List S38) (hE : event_Check.f l0 = some 0) (hl : l0.length ≤ 100000) (hA : event_Calls.f l0 = some (r, 0)) : Seq l0 r l0.length := by
  have hchk : chkGo l0 l0.length 0 (List.replicate 64 false) (List.replicate 64 z33) = 0 := by
    unfold event_Check.f at hE
    rw [if_neg (by omega)] at hE
    exact Option.some.inj hE
  have hcg : callsGo l0 l0.length 0 (List.replicate 64 0) [] = some r := by
    unfold event_Calls.f event_calls.f at hA
    rw [hE] at hA
    simp only [Option.bind_some, if_true] at hA
    obtain ⟨t, h1, h2⟩ := Option.bind_eq_some_iff.mp hA
    cases h2
    exact h1
  have := seq_go l0 l0.length 0 (List.replicate 64 false) (List.replicate 64 z33) (List.replicate 64 0) [] r (by simp) (by simp) hchk (fun t _ _ ht => by
    rw [rdOf_rep] at ht
    cases ht) (fun q q0 q1 => by simp at q1; omega) ⟨fun q q0 q1 => by simp at q1; omega, fun q q' q0 q1 q2 => by simp at q2; omega, fun q q' q0 q1 q2 => by simp at q2; omega, fun i hi => by omega, fun i hi => by omega⟩ hcg
  rwa [Nat.zero_add] at this
end Go.Proofs.Ytagdkmcgepidoaa.P
/- P10 -/
namespace Go.Proofs.Ytagdkmcgepidoaa.P
open Go.RowKit Go.Proofs.YtagdkmcgepidoaaW.PrintWords Go.Proofs.YtagdkmcgepidoaaW.PrintLast Go.Proofs.YtagdkmcgepidoaaW.PrintMore
def sm (g : Nat → Nat) : Nat → Nat
  | 0 => 0
  | d + 1 => sm g d + g d
section
variable (xs : List S38)
def fF : Nat → Nat → Nat
  | 0, _ => 0
  | k + 1, t => if t = 0 then 1 else sm (fun i => if (t.testBit i && okS xs (t ^^^ 2 ^ i) i) = true then fF k (t ^^^ 2 ^ i) else 0) xs.length
def F (t : Nat) : Nat := fF xs (t + 1) t
def hT (s i0 t i : Nat) : Nat := if (t.testBit i && (decide (t ^^^ 2 ^ i < s ∨ (t ^^^ 2 ^ i = s ∧ i < i0)) && okS xs (t ^^^ 2 ^ i) i)) = true then F xs (t ^^^ 2 ^ i) else 0
def hV (s i0 t : Nat) : Nat := (if t = 0 then 1 else 0) + sm (hT xs s i0 t) xs.length
variable (hup : ∀ i k : Nat, i < k → k < xs.length → aheadB (J38 xs (k : Int)) (J38 xs (i : Int)) = false)
end
end Go.Proofs.Ytagdkmcgepidoaa.P
/- P11 -/
namespace Go.Proofs.Ytagdkmcgepidoaa.P
open Go.RowKit Go.Proofs.YtagdkmcgepidoaaW.PrintWords Go.Proofs.YtagdkmcgepidoaaW.PrintLast Go.Proofs.YtagdkmcgepidoaaW.PrintMore
theorem donL_set : ∀ (out : List S38) (q : Nat) (y : S38) (h : q < out.length), pendB out[q] = true → pendB y = false → (donL (out.set q y)).length = (donL out).length + 1
  | [], q, y, h, _, _ => by simp at h
  | x :: xs, 0, y, _, h1, h2 => by
    have h1' : pendB x = true := h1
    unfold donL
    rw [List.set_cons_zero, List.filter_cons_of_pos (by rw [h2]; rfl), List.filter_cons_of_neg (by rw [h1']; decide), List.length_cons]
  | x :: xs, q + 1, y, h, h1, h2 => by
    have ih := donL_set xs q y (by simpa using h) (by simpa using h1) h2
    rw [List.set_cons_succ]
    unfold donL at ih ⊢
    by_cases hx : pendB x = true
    · rw [List.filter_cons_of_neg (by rw [hx]; decide), List.filter_cons_of_neg (by rw [hx]; decide)]
      exact ih
    · have hx' : pendB x = false := by simpa using hx
      rw [List.filter_cons_of_pos (by rw [hx']; rfl), List.filter_cons_of_pos (by rw [hx']; rfl), List.length_cons, List.length_cons, ih]
theorem half_go (l0 : List S67) : ∀ d (j : Nat) (op : List Bool) (ops : List S33) (last : List Int) (out r : List S38), op.length = 64 → last.length = 64 → chkGo l0 d j op ops = 0 →
    (∀ t : Int, 0 ≤ t → t < 64 → rdOf false op t = true → (0 ≤ rd last t ∧ rd last t < out.length) ∧ (J38 out (rd last t)).f0 = t ∧ (J38 out (rd last t)).f4 = -1) → out.length + (donL out).length = j → callsGo l0 d j last out = some r → r.length + (donL r).length = j + d
  | 0, j, op, ops, last, out, r, _, _, _, _, hh, hr => by
    simp only [callsGo, Option.some.injEq] at hr
    subst hr
    exact hh
  | d + 1, j, op, ops, last, out, r, h1, h2, hc, hop, hh, hr => by
    obtain ⟨hf, hf1, -, hc'⟩ := chk_step hc
    obtain ⟨e, he⟩ : ∃ e, e = J67 l0 (j : Int) := ⟨_, rfl⟩
    simp only [callsGo, ← he] at hr
    rw [← he] at hf hf1 hc'
    rw [if_pos hf] at hr
    rw [show j + (d + 1) = j + 1 + d by omega]
    by_cases hb : e.f1 = true
    · obtain ⟨hq, hq0, hq4⟩ := hop e.f0 hf.1 hf.2 (by rw [← hf1]; exact hb)
      obtain ⟨q, hqe⟩ : ∃ q, q = rd last e.f0 := ⟨_, rfl⟩
      rw [if_pos hb] at hr
      rw [← hqe] at hq hq0 hq4 hr
      split at hr
      rotate_left
      · cases hr
      rename_i hg
      obtain ⟨v, hv⟩ : ∃ v : S38, v = ⟨(J38 out q).f0, (J38 out q).f1, e.f3, (J38 out q).f3, (j : Int)⟩ := ⟨_, rfl⟩
      rw [← hv] at hr
      have hv4 : v.f4 = (j : Int) := by rw [hv]
      clear hv hg
      refine half_go l0 d (j + 1) _ _ last _ r (by simpa using h1) h2 hc' (fun t t0 t1 ht => ?_) ?_ hr
      · rw [rdOf_set _ _ _ _ (by omega) t0] at ht
        by_cases e1 : t = e.f0
        · rw [if_pos e1, hb] at ht; simp at ht
        · rw [if_neg e1] at ht
          obtain ⟨a, b, c⟩ := hop t t0 t1 ht
          rw [List.length_set, rd38_set out q _ v hq a.1]
          have : rd last t ≠ q := fun hh => e1 (by rw [hh] at b; omega)
          rw [if_neg this]
          exact ⟨a, b, c⟩
      · have hqn : q.toNat < out.length := by omega
        have hg : out[q.toNat] = J38 out q := by
          rw [rd38_get out q.toNat hqn, Int.toNat_of_nonneg hq.1]
        rw [List.length_set, donL_set out q.toNat v hqn (by rw [hg]; unfold pendB; rw [hq4]; rfl) (by unfold pendB; rw [hv4]; exact decide_eq_false (by omega))]
        omega
    · have hb' : e.f1 = false := by simpa using hb
      rw [if_neg hb] at hr
      split at hr
      rotate_left
      · cases hr
      obtain ⟨v, hv⟩ : ∃ v : S38, v = ⟨e.f0, e.f2, z36, (j : Int), -1⟩ := ⟨_, rfl⟩
      rw [← hv] at hr
      have hv0 : v.f0 = e.f0 := by rw [hv]
      have hv4 : v.f4 = -1 := by rw [hv]
      clear hv
      refine half_go l0 d (j + 1) _ _ (last.set e.f0.toNat (out.length : Int)) _ r (by simpa using h1) (by simpa using h2) hc' (fun t t0 t1 ht => ?_) ?_ hr
      · rw [rdOf_set _ _ _ _ (by omega) t0] at ht
        rw [rd_set _ _ _ _ (by omega) t0, List.length_append, List.length_singleton]
        by_cases e1 : t = e.f0
        · rw [if_pos e1, rd38_app out v _ (by omega), if_pos rfl, hv0, hv4]
          exact ⟨by omega, e1.symm, rfl⟩
        · rw [if_neg e1] at ht
          obtain ⟨a, b, c⟩ := hop t t0 t1 ht
          rw [if_neg e1, rd38_app out v _ (by omega), if_neg (by omega)]
          exact ⟨by omega, b, c⟩
      · unfold donL
        rw [List.filter_append, List.length_append, List.length_append, List.length_singleton, List.filter_cons_of_neg (by unfold pendB; rw [hv4]; decide)]
        unfold donL at hh
        simp only [List.filter_nil, List.length_nil]
        omega
end Go.Proofs.Ytagdkmcgepidoaa.P
/- P12 -/
namespace Go.Proofs.Ytagdkmcgepidoaa.P
open Go.RowKit Go.Proofs.YtagdkmcgepidoaaW.PrintWords Go.Proofs.YtagdkmcgepidoaaW.PrintLast Go.Proofs.YtagdkmcgepidoaaW.PrintMore
structure All (l0 : List S67) (r : List S38) (own : Nat → Int) : Prop where
  len : l0.length ≤ 100000
  chk : chkGo l0 l0.length 0 (List.replicate 64 false) (List.replicate 64 z33) = 0
  calls : event_Calls.f l0 = some (r, 0)
  go : callsGo l0 l0.length 0 (List.replicate 64 0) [] = some r
  rl : r.length ≤ l0.length
  ow : Own r l0.length own
  sq : Seq l0 r l0.length
  wk : Go.Proofs.Ytagdkmcgepidoaa.P.ow l0 own l0.length 0 (List.replicate 64 0) 0
  half : r.length + (donL r).length = l0.length
  rs : ∀ g : Int → Bool, resp l0 (fun i => g (own i)) l0.length 0 (fun _ => g 0)
theorem all_of2 (l0 : List S67) (hp : ∀ e ∈ l0, e.f3.f3.length ≤ 1048576) (hE : event_Check.f l0 = some 0) : ∃ (r : List S38) (own : Nat → Int), All l0 r own := by
  obtain ⟨hl, hchk, r, own0, hA, hB, hC, hr, -, -⟩ := all_of l0 hp hE
  have hcg : callsGo l0 l0.length 0 (List.replicate 64 0) [] = some r := by
    have hA' := hA
    unfold event_Calls.f event_calls.f at hA'
    rw [hE] at hA'
    simp only [Option.bind_some, if_true] at hA'
    obtain ⟨t, h1, h2⟩ := Option.bind_eq_some_iff.mp hA'
    cases h2
    exact h1
  obtain ⟨own, -, hO, hG, hW⟩ := own_go l0 l0.length 0 (List.replicate 64 false) (List.replicate 64 z33) (List.replicate 64 0) [] r (fun _ => 0) (by simp) (by simp) hchk (fun t _ _ ht => by
    rw [rdOf_rep] at ht
    cases ht) ⟨fun q q0 q1 => by simp at q1; omega, fun q q0 q1 => by simp at q1; omega, fun i hi => by omega, fun q q0 q1 => by simp at q1; omega⟩ hcg
  rw [Nat.zero_add] at hO
  have hH := half_go l0 l0.length 0 (List.replicate 64 false) (List.replicate 64 z33) (List.replicate 64 0) [] r (by simp) (by simp) hchk (fun t _ _ ht => by
    rw [rdOf_rep] at ht
    cases ht) rfl hcg
  refine ⟨r, own, hl, hchk, hA, hcg, hr, hO, seq_of l0 r hE hl hA, hW, by omega, fun g => hG g _ fun t t0 t1 => ?_⟩
  unfold rd
  rw [List.getD_eq_getElem?_getD, List.getElem?_replicate]
  split <;> rfl
theorem All.tw {l0 : List S67} {r : List S38} {own : Nat → Int} (h : All l0 r own) : ∀ x ∈ r, x.f4 = -1 ∨ 0 ≤ x.f4 := by
  intro x hx
  obtain ⟨i, hi, rfl⟩ := List.mem_iff_getElem.1 hx
  rw [rd38_get r i hi]
  rcases h.ow.tw (i : Int) (by omega) (by omega) with h | h
  · exact .inl h
  · exact .inr h.1.1
theorem All.lt {l0 : List S67} {r : List S38} {own : Nat → Int} (h : All l0 r own) : ∀ x ∈ r, x.f4 = -1 ∨ x.f3 < x.f4 := by
  intro x hx
  obtain ⟨i, hi, rfl⟩ := List.mem_iff_getElem.1 hx
  rw [rd38_get r i hi]
  exact h.ow.lt (i : Int) (by omega) (by omega)
structure Rising (xs : List S38) : Prop where
  mo : ∀ i k : Nat, i < k → k < xs.length → (J38 xs (i : Int)).f3 < (J38 xs (k : Int)).f3
  lt : ∀ i : Nat, i < xs.length → (J38 xs (i : Int)).f4 = -1 ∨ (J38 xs (i : Int)).f3 < (J38 xs (i : Int)).f4
end Go.Proofs.Ytagdkmcgepidoaa.P
