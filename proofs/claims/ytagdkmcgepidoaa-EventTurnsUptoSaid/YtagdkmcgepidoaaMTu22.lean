/- P.eventTurns_holds, part 23 of 26: the contracts of the Go functions that the law calls, its own walk, and its plain law, for every input that the statement speaks of. -/
import Derived.Test.YtagdkmcgepidoaaMTu11
import Derived.Test.YtagdkmcgepidoaaMTu15
import Derived.Test.YtagdkmcgepidoaaMTu20
import Derived.Test.YtagdkmcgepidoaaMTu21
import Derived.Test.YtagdkmcgepidoaaMTu2
import Derived.Test.YtagdkmcgepidoaaMTu19
import Derived.Test.YtagdkmcgepidoaaMTu7
import Derived.Test.YtagdkmcgepidoaaMTu8
import Derived.Test.YtagdkmcgepidoaaMTu9
import Derived.Test.YtagdkmcgepidoaaMTu10
import Derived.Test.YtagdkmcgepidoaaMTu18
set_option linter.unusedVariables false
set_option linter.unusedSimpArgs false
/- P3 -/
namespace Go.Proofs.Ytagdkmcgepidoaa.P
open Go.RowKit Go.Proofs.YtagdkmcgepidoaaW.PrintWords Go.Proofs.YtagdkmcgepidoaaW.PrintLast Go.Proofs.YtagdkmcgepidoaaW.PrintMore
theorem known_ok3 : larchlaw05_known.f = some true := by kernel_rfl
theorem rd67_mem (l : List S67) (j : Nat) (h : j < l.length) : J67 l (j : Int) ∈ l := by
  unfold J67
  rw [Int.toNat_natCast, List.getD_eq_getElem?_getD, List.getElem?_eq_getElem h]
  exact List.getElem_mem _
theorem drop67 (l : List S67) (j : Nat) (h : j < l.length) : l.drop j = J67 l (j : Int) :: l.drop (j + 1) := by
  rw [List.drop_eq_getElem_cons h]
  unfold J67
  rw [Int.toNat_natCast, List.getD_eq_getElem?_getD, List.getElem?_eq_getElem h]
  rfl
theorem copy_go (x : List S67) (hx : x.length ≤ 100000) (hp : ∀ e ∈ x, e.f3.f3.length ≤ 1048576) : ∀ d (j : Nat) (out : List S67), j + d = x.length → out.length ≤ j → Ev (fun k => larchref05_CopyEvents.l0 k x out (j : Int)) (out ++ x.drop j)
  | 0, j, out, hd, _ => by
    refine Ev.succ ((Ev.const out).congr' (by rw [List.drop_eq_nil_of_le (by omega), List.append_nil]) fun k => ?_)
    simp only [larchref05_CopyEvents.l0]
    rw [if_neg (by omega)]
  | d + 1, j, out, hd, ho => by
    have hpe := hp _ (rd67_mem x j (by omega))
    refine Ev.succ ((copy_go x hx hp d (j + 1) (out ++ [J67 x (j : Int)]) (by omega) (by simp; omega)).congr' (by rw [drop67 x j (by omega)]; simp) fun k => ?_)
    simp only [larchref05_CopyEvents.l0]
    rw [if_pos (by omega), if_pos (by omega)]
    unfold larchref05_CopyRet.f
    simp only [Option.bind_some, List.length_nil, List.nil_append]
    rw [if_pos (by omega)]
    simp only [Option.bind_some]
    rw [if_pos (by omega), wrap_succ (by omega)]
theorem copy_ev (x : List S67) (hx : x.length ≤ 100000) (hp : ∀ e ∈ x, e.f3.f3.length ≤ 1048576) : Ev (fun k => larchref05_CopyEvents.f k x) x := by
  have := copy_go x hx hp x.length 0 [] (by omega) (by simp)
  simpa [larchref05_CopyEvents.f] using this
theorem samePairs_go (a b : List S70) (hl : a.length = b.length) (ha : a.length ≤ 1048576) : ∀ d (j : Nat), j + d = a.length → Ev (fun k => larchref05_SamePairs.l0 k a b (j : Int)) (pairsGo a b d j)
  | 0, j, hd => by
    refine Ev.succ ((Ev.const true).congr fun k => ?_)
    simp only [larchref05_SamePairs.l0]
    rw [if_neg (by omega)]
  | d + 1, j, hd => by
    have ih := samePairs_go a b hl ha d (j + 1) (by omega)
    unfold pairsGo
    by_cases h : ((J70 a (j : Int)).f0 == (J70 b (j : Int)).f0 && (J70 a (j : Int)).f1 == (J70 b (j : Int)).f1) = true
    · rw [h, Bool.true_and]
      refine Ev.succ (ih.congr fun k => ?_)
      simp only [larchref05_SamePairs.l0]
      simp only [Bool.and_eq_true, beq_iff_eq] at h
      rw [if_pos (by omega), if_pos (by omega), if_pos (by omega), if_neg (by simp [h.1, h.2]), wrap_succ (by omega)]
    · have h' : ((J70 a (j : Int)).f0 == (J70 b (j : Int)).f0 && (J70 a (j : Int)).f1 == (J70 b (j : Int)).f1) = false := by simpa using h
      rw [h', Bool.false_and]
      refine Ev.succ ((Ev.const false).congr fun k => ?_)
      simp only [larchref05_SamePairs.l0]
      rw [if_pos (by omega), if_pos (by omega), if_pos (by omega), if_pos]
      rw [← Bool.not_and, h']
      rfl
theorem sameRet_ev (a b : S36) (ha : a.f3.length ≤ 1048576) : Ev (fun k => larchref05_SameRet.f k a.f0 a.f1 a.f2 a.f3 b.f0 b.f1 b.f2 b.f3) (sameRetB a b) := by
  unfold larchref05_SameRet.f sameRetB
  by_cases h0 : a.f0 = b.f0
  · by_cases h1 : a.f1 = b.f1
    · by_cases h2 : a.f2 = b.f2
      · have main : Ev (fun k => larchref05_SamePairs.f k a.f3 b.f3) (decide (a.f3.length = b.f3.length) && pairsGo a.f3 b.f3 a.f3.length 0) := by
          unfold larchref05_SamePairs.f
          by_cases h3 : a.f3.length = b.f3.length
          · rw [decide_eq_true h3, Bool.true_and]
            refine (samePairs_go a.f3 b.f3 h3 ha a.f3.length 0 (by omega)).congr fun k => ?_
            rw [if_pos (by omega)]
            rfl
          · rw [decide_eq_false h3, Bool.false_and]
            refine (Ev.const false).congr fun k => ?_
            rw [if_neg (by omega)]
        refine Ev.congr' (g := fun k => (larchref05_SamePairs.f k a.f3 b.f3).bind fun t => some t) (Ev.bind main (Ev.const _)) (by simp [h0, h1, h2]) fun k => ?_
        simp [h0, h1, h2]
      · exact (Ev.const false).congr' (by simp [h2]) fun k => by simp [h0, h1, h2]
    · exact (Ev.const false).congr' (by simp [h1]) fun k => by simp [h0, h1]
  · exact (Ev.const false).congr' (by simp [h0]) fun k => by simp [h0]
theorem sameEvent_ev (a b : S67) (ha : a.f3.f3.length ≤ 1048576) : Ev (fun k => larchref05_sameEvent.f k a.f0 a.f1 a.f2.f0 a.f2.f1 a.f2.f2 a.f2.f3 a.f3.f0 a.f3.f1 a.f3.f2 a.f3.f3 b.f0 b.f1 b.f2.f0 b.f2.f1 b.f2.f2 b.f2.f3 b.f3.f0 b.f3.f1 b.f3.f2 b.f3.f3) (a.f0 == b.f0 && evSame a b) := by
  unfold larchref05_sameEvent.f evSame
  by_cases h0 : a.f0 = b.f0
  · by_cases h1 : a.f1 = b.f1
    · by_cases h2 : opSame a.f2 b.f2 = true
      · refine Ev.congr' (g := fun k => (larchref05_SameRet.f k a.f3.f0 a.f3.f1 a.f3.f2 a.f3.f3 b.f3.f0 b.f3.f1 b.f3.f2 b.f3.f3).bind fun t => some t) (Ev.bind (sameRet_ev a.f3 b.f3 ha) (Ev.const _)) (by simp [h0, h1, h2]) fun k => ?_
        unfold opSame at h2
        rw [if_pos h0, if_pos (by simp [h1]), if_pos h2]
      · refine (Ev.const false).congr' (by simp [h2]) fun k => ?_
        unfold opSame at h2
        rw [if_pos h0, if_pos (by simp [h1]), if_neg h2]
    · exact (Ev.const false).congr' (by simp [h1]) fun k => by rw [if_pos h0, if_neg (by simpa using h1)]
  · exact (Ev.const false).congr' (by simp [h0]) fun k => by rw [if_neg h0]
def seGo (xs ys : List S67) : Nat → Nat → Bool
  | 0, _ => true
  | d + 1, j => ((J67 xs (j : Int)).f0 == (J67 ys (j : Int)).f0 && evSame (J67 xs (j : Int)) (J67 ys (j : Int))) && seGo xs ys d (j + 1)
def seB (xs ys : List S67) : Bool := decide (xs.length = ys.length) && seGo xs ys xs.length 0
theorem se_go (xs ys : List S67) (hl : xs.length = ys.length) (hx : xs.length ≤ 100000) (hp : ∀ e ∈ xs, e.f3.f3.length ≤ 1048576) : ∀ d (j : Nat), j + d = xs.length → Ev (fun k => larchref05_SameEvents.l0 k xs ys (j : Int)) (seGo xs ys d j)
  | 0, j, hd => by
    refine Ev.succ ((Ev.const true).congr fun k => ?_)
    simp only [larchref05_SameEvents.l0]
    rw [if_neg (by omega)]
  | d + 1, j, hd => by
    have ih := se_go xs ys hl hx hp d (j + 1) (by omega)
    have hs := sameEvent_ev (J67 xs (j : Int)) (J67 ys (j : Int)) (hp _ (rd67_mem xs j (by omega)))
    unfold seGo
    obtain ⟨b, hb⟩ : ∃ b, ((J67 xs (j : Int)).f0 == (J67 ys (j : Int)).f0 && evSame (J67 xs (j : Int)) (J67 ys (j : Int))) = b := ⟨_, rfl⟩
    rw [hb] at hs ⊢
    refine Ev.succ (Ev.congr (g := fun k => (larchref05_sameEvent.f k (J67 xs (j : Int)).f0 (J67 xs (j : Int)).f1 (J67 xs (j : Int)).f2.f0 (J67 xs (j : Int)).f2.f1 (J67 xs (j : Int)).f2.f2 (J67 xs (j : Int)).f2.f3 (J67 xs (j : Int)).f3.f0 (J67 xs (j : Int)).f3.f1 (J67 xs (j : Int)).f3.f2 (J67 xs (j : Int)).f3.f3 (J67 ys (j : Int)).f0 (J67 ys (j : Int)).f1 (J67 ys (j : Int)).f2.f0 (J67 ys (j : Int)).f2.f1 (J67 ys (j : Int)).f2.f2 (J67 ys (j : Int)).f2.f3 (J67 ys (j : Int)).f3.f0 (J67 ys (j : Int)).f3.f1 (J67 ys (j : Int)).f3.f2 (J67 ys (j : Int)).f3.f3).bind fun t272 => if t272 = true then larchref05_SameEvents.l0 k xs ys (((j + 1 : Nat) : Int)) else some false) ?_ fun k => ?_)
    · refine Ev.bind hs ?_
      cases b with
      | true => simpa using ih
      | false => simpa using Ev.const false
    · simp only [larchref05_SameEvents.l0]
      rw [if_pos (by omega), if_pos (by omega), if_pos (by omega), wrap_succ (by omega)]
theorem se_ev (xs ys : List S67) (hx : xs.length ≤ 100000) (hp : ∀ e ∈ xs, e.f3.f3.length ≤ 1048576) : Ev (fun k => larchref05_SameEvents.f k xs ys) (seB xs ys) := by
  unfold larchref05_SameEvents.f seB
  by_cases h : xs.length = ys.length
  · rw [decide_eq_true h, Bool.true_and]
    refine (se_go xs ys h hx hp xs.length 0 (by omega)).congr fun k => ?_
    rw [if_pos (by omega)]
    rfl
  · rw [decide_eq_false h, Bool.false_and]
    refine (Ev.const false).congr fun k => ?_
    rw [if_neg (by omega)]
end Go.Proofs.Ytagdkmcgepidoaa.P
/- P4 -/
namespace Go.Proofs.Ytagdkmcgepidoaa.P
open Go.RowKit Go.Proofs.YtagdkmcgepidoaaW.PrintWords Go.Proofs.YtagdkmcgepidoaaW.PrintLast Go.Proofs.YtagdkmcgepidoaaW.PrintMore
theorem chk_step {l0 : List S67} {d j : Nat} {op : List Bool} {ops : List S33} (h : chkGo l0 (d + 1) j op ops = 0) :
    (0 ≤ (J67 l0 (j : Int)).f0 ∧ (J67 l0 (j : Int)).f0 < 64) ∧ (J67 l0 (j : Int)).f1 = rdOf false op (J67 l0 (j : Int)).f0 ∧ evOk (J67 l0 (j : Int)) ops = true ∧ chkGo l0 d (j + 1) (op.set (J67 l0 (j : Int)).f0.toNat (!(J67 l0 (j : Int)).f1)) (ops.set (J67 l0 (j : Int)).f0.toNat (J67 l0 (j : Int)).f2) = 0 := by
  unfold chkGo at h
  split at h
  · omega
  rename_i h1
  split at h
  rotate_left
  · omega
  rename_i h2
  exact ⟨by omega, Decidable.byContradiction fun hh => h1 (.inr (.inr hh)), h2, h⟩
theorem rd38_set (x : List S38) (a i : Int) (v : S38) (ha : 0 ≤ a ∧ a < x.length) (hi : 0 ≤ i) : J38 (x.set a.toNat v) i = if i = a then v else J38 x i := by
  unfold J38
  rw [List.getD_eq_getElem?_getD, List.getElem?_set]
  by_cases e : i = a
  · subst e
    rw [if_pos rfl, if_pos (by omega), if_pos rfl]
    rfl
  · rw [if_neg (by omega), if_neg e, List.getD_eq_getElem?_getD]
theorem rd38_app (x : List S38) (v : S38) (i : Int) (hi : 0 ≤ i ∧ i ≤ x.length) : J38 (x ++ [v]) i = if i = x.length then v else J38 x i := by
  unfold J38
  rw [List.getD_eq_getElem?_getD]
  by_cases e : i = x.length
  · rw [if_pos e, List.getElem?_append_right (by omega), show i.toNat - x.length = 0 by omega]
    rfl
  · rw [if_neg e, List.getElem?_append_left (by omega), List.getD_eq_getElem?_getD]
structure Own (out : List S38) (j : Nat) (own : Nat → Int) : Prop where
  fr : ∀ q : Int, 0 ≤ q → q < out.length → (0 ≤ (J38 out q).f3 ∧ (J38 out q).f3 < j) ∧ own (J38 out q).f3.toNat = q
  tw : ∀ q : Int, 0 ≤ q → q < out.length → (J38 out q).f4 = -1 ∨ ((0 ≤ (J38 out q).f4 ∧ (J38 out q).f4 < j) ∧ own (J38 out q).f4.toNat = q)
  al : ∀ i : Nat, i < j → (0 ≤ own i ∧ own i < out.length) ∧ ((J38 out (own i)).f3 = i ∨ (J38 out (own i)).f4 = i)
  lt : ∀ q : Int, 0 ≤ q → q < out.length → (J38 out q).f4 = -1 ∨ (J38 out q).f3 < (J38 out q).f4
def resp (l0 : List S67) (p : Nat → Bool) : Nat → Nat → (Int → Bool) → Prop
  | 0, _, _ => True
  | d + 1, j, lp => if (J67 l0 (j : Int)).f1 = true then p j = lp (J67 l0 (j : Int)).f0 ∧ resp l0 p d (j + 1) lp else resp l0 p d (j + 1) (fun t => if t = (J67 l0 (j : Int)).f0 then p j else lp t)
def ow (l0 : List S67) (own : Nat → Int) : Nat → Nat → List Int → Nat → Prop
  | 0, _, _, _ => True
  | d + 1, j, last, m => if (J67 l0 (j : Int)).f1 = true then own j = rd last (J67 l0 (j : Int)).f0 ∧ ow l0 own d (j + 1) last m else own j = (m : Int) ∧ ow l0 own d (j + 1) (last.set (J67 l0 (j : Int)).f0.toNat (m : Int)) (m + 1)
theorem own_go (l0 : List S67) : ∀ d (j : Nat) (op : List Bool) (ops : List S33) (last : List Int) (out r : List S38) (own : Nat → Int), op.length = 64 → last.length = 64 → chkGo l0 d j op ops = 0 →
    (∀ t : Int, 0 ≤ t → t < 64 → rdOf false op t = true → (0 ≤ rd last t ∧ rd last t < out.length) ∧ (J38 out (rd last t)).f0 = t ∧ (J38 out (rd last t)).f4 = -1) → Own out j own → callsGo l0 d j last out = some r →
    ∃ own' : Nat → Int, (∀ i, i < j → own' i = own i) ∧ Own r (j + d) own' ∧ (∀ g : Int → Bool, ∀ lp : Int → Bool, (∀ t : Int, 0 ≤ t → t < 64 → lp t = g (rd last t)) → resp l0 (fun i => g (own' i)) d j lp) ∧ ow l0 own' d j last out.length
  | 0, j, op, ops, last, out, r, own, _, _, _, _, hO, hr => by
    simp only [callsGo, Option.some.injEq] at hr
    subst hr
    exact ⟨own, fun _ _ => rfl, hO, fun _ _ _ => trivial, trivial⟩
  | d + 1, j, op, ops, last, out, r, own, h1, h2, hc, hop, hO, hr => by
    obtain ⟨hf, hf1, -, hc'⟩ := chk_step hc
    obtain ⟨e, he⟩ : ∃ e, e = J67 l0 (j : Int) := ⟨_, rfl⟩
    simp only [callsGo, ← he] at hr
    rw [← he] at hf hf1 hc'
    rw [if_pos hf] at hr
    by_cases hb : e.f1 = true
    · obtain ⟨hq, hq0, hq4⟩ := hop e.f0 hf.1 hf.2 (by rw [← hf1]; exact hb)
      obtain ⟨q, hqe⟩ : ∃ q, q = rd last e.f0 := ⟨_, rfl⟩
      rw [if_pos hb] at hr
      rw [← hqe] at hq hq0 hq4 hr
      split at hr
      rotate_left
      · cases hr
      rename_i hg
      obtain ⟨v, hv⟩ : ∃ v : S38, v = ⟨(J38 out q).f0, (J38 out q).f1, e.f3, (J38 out q).f3, (j : Int)⟩ := ⟨_, rfl⟩
      rw [← hv] at hr
      have hv0 : v.f0 = e.f0 := by rw [hv]; exact hq0
      have hv3 : v.f3 = (J38 out q).f3 := by rw [hv]
      have hv4 : v.f4 = (j : Int) := by rw [hv]
      clear hv hg
      have rs : ∀ i : Int, 0 ≤ i → J38 (out.set q.toNat v) i = if i = q then v else J38 out i := fun i hi => rd38_set out q i v hq hi
      have hO' : Own (out.set q.toNat v) (j + 1) (fun i => if i = j then q else own i) := by
        refine ⟨fun i i0 i1 => ?_, fun i i0 i1 => ?_, fun i hi => ?_, fun i i0 i1 => ?_⟩
        rotate_left 3
        · rw [List.length_set] at i1
          rw [rs i i0]
          by_cases e1 : i = q
          · subst e1
            rw [if_pos rfl, hv3, hv4]
            exact .inr (hO.fr i i0 i1).1.2
          · rw [if_neg e1]
            exact hO.lt i i0 i1
        · rw [List.length_set] at i1
          rw [rs i i0]
          obtain ⟨a, b⟩ := hO.fr i i0 i1
          by_cases e1 : i = q
          · subst e1
            rw [if_pos rfl, hv3]
            exact ⟨by omega, by rw [if_neg (by omega)]; exact b⟩
          · rw [if_neg e1]
            exact ⟨by omega, by rw [if_neg (by omega)]; exact b⟩
        · rw [List.length_set] at i1
          rw [rs i i0]
          by_cases e1 : i = q
          · subst e1
            rw [if_pos rfl, hv4]
            right
            exact ⟨by omega, by rw [if_pos (by omega)]⟩
          · rw [if_neg e1]
            rcases hO.tw i i0 i1 with a | ⟨a, b⟩
            · exact .inl a
            · exact .inr ⟨by omega, by rw [if_neg (by omega)]; exact b⟩
        · rw [List.length_set]
          by_cases e2 : i = j
          · rw [if_pos e2, rs q hq.1, if_pos rfl, hv4]
            exact ⟨hq, .inr (by omega)⟩
          · rw [if_neg e2]
            obtain ⟨a, b⟩ := hO.al i (by omega)
            rw [rs _ a.1]
            refine ⟨a, ?_⟩
            by_cases e1 : own i = q
            · rw [if_pos e1, hv3]
              rw [e1] at b
              rcases b with b | b
              · exact .inl b
              · omega
            · rw [if_neg e1]
              exact b
      obtain ⟨own', hp, hO2, hR, hW⟩ := own_go l0 d (j + 1) _ _ last _ r _ (by simpa using h1) h2 hc' (fun t t0 t1 ht => by
        rw [rdOf_set _ _ _ _ (by omega) t0] at ht
        by_cases e1 : t = e.f0
        · rw [if_pos e1, hb] at ht; simp at ht
        · rw [if_neg e1] at ht
          obtain ⟨a, b, c⟩ := hop t t0 t1 ht
          rw [List.length_set, rs _ a.1]
          have : rd last t ≠ q := fun hh => e1 (by rw [hh] at b; omega)
          rw [if_neg this]
          exact ⟨a, b, c⟩) hO' hr
      refine ⟨own', fun i hi => ?_, by rw [show j + (d + 1) = j + 1 + d by omega]; exact hO2, fun g lp hlp => ?_, ?_⟩
      · rw [hp i (by omega)]
        exact if_neg (by omega)
      · unfold resp
        rw [← he, if_pos hb]
        refine ⟨?_, hR g lp hlp⟩
        rw [hp j (by omega), hlp e.f0 hf.1 hf.2, ← hqe, if_pos rfl]
      · unfold ow
        rw [← he, if_pos hb]
        rw [List.length_set] at hW
        exact ⟨by rw [hp j (by omega), ← hqe, if_pos rfl], hW⟩
    · have hb' : e.f1 = false := by simpa using hb
      rw [if_neg hb] at hr
      split at hr
      rotate_left
      · cases hr
      obtain ⟨v, hv⟩ : ∃ v : S38, v = ⟨e.f0, e.f2, z36, (j : Int), -1⟩ := ⟨_, rfl⟩
      rw [← hv] at hr
      have hv0 : v.f0 = e.f0 := by rw [hv]
      have hv3 : v.f3 = (j : Int) := by rw [hv]
      have hv4 : v.f4 = -1 := by rw [hv]
      clear hv
      have rs : ∀ i : Int, 0 ≤ i ∧ i ≤ out.length → J38 (out ++ [v]) i = if i = out.length then v else J38 out i := fun i hi => rd38_app out v i hi
      have hO' : Own (out ++ [v]) (j + 1) (fun i => if i = j then (out.length : Int) else own i) := by
        refine ⟨fun i i0 i1 => ?_, fun i i0 i1 => ?_, fun i hi => ?_, fun i i0 i1 => ?_⟩
        rotate_left 3
        · rw [List.length_append, List.length_singleton] at i1
          rw [rs i (by omega)]
          by_cases e1 : i = out.length
          · rw [if_pos e1, hv4]
            exact .inl rfl
          · rw [if_neg e1]
            exact hO.lt i i0 (by omega)
        · rw [List.length_append, List.length_singleton] at i1
          rw [rs i (by omega)]
          by_cases e1 : i = out.length
          · rw [if_pos e1, hv3]
            exact ⟨by omega, by rw [if_pos (by omega)]; exact e1.symm⟩
          · rw [if_neg e1]
            obtain ⟨a, b⟩ := hO.fr i i0 (by omega)
            exact ⟨by omega, by rw [if_neg (by omega)]; exact b⟩
        · rw [List.length_append, List.length_singleton] at i1
          rw [rs i (by omega)]
          by_cases e1 : i = out.length
          · rw [if_pos e1, hv4]
            exact .inl rfl
          · rw [if_neg e1]
            rcases hO.tw i i0 (by omega) with a | ⟨a, b⟩
            · exact .inl a
            · exact .inr ⟨by omega, by rw [if_neg (by omega)]; exact b⟩
        · rw [List.length_append, List.length_singleton]
          by_cases e2 : i = j
          · rw [if_pos e2, rs _ (by omega), if_pos rfl, hv3]
            exact ⟨by omega, .inl (by omega)⟩
          · rw [if_neg e2]
            obtain ⟨a, b⟩ := hO.al i (by omega)
            rw [rs _ (by omega), if_neg (by omega)]
            exact ⟨by omega, b⟩
      obtain ⟨own', hp, hO2, hR, hW⟩ := own_go l0 d (j + 1) _ _ (last.set e.f0.toNat (out.length : Int)) _ r _ (by simpa using h1) (by simpa using h2) hc' (fun t t0 t1 ht => by
        rw [rdOf_set _ _ _ _ (by omega) t0] at ht
        rw [rd_set _ _ _ _ (by omega) t0, List.length_append, List.length_singleton]
        by_cases e1 : t = e.f0
        · rw [if_pos e1, rs _ (by omega), if_pos rfl, hv0, hv4]
          exact ⟨by omega, e1.symm, rfl⟩
        · rw [if_neg e1] at ht
          obtain ⟨a, b, c⟩ := hop t t0 t1 ht
          rw [if_neg e1, rs _ (by omega), if_neg (by omega)]
          exact ⟨by omega, b, c⟩) hO' hr
      refine ⟨own', fun i hi => ?_, by rw [show j + (d + 1) = j + 1 + d by omega]; exact hO2, fun g lp hlp => ?_, ?_⟩
      · rw [hp i (by omega)]
        exact if_neg (by omega)
      · unfold resp
        rw [← he, if_neg hb]
        refine hR g _ fun t t0 t1 => ?_
        rw [rd_set _ _ _ _ (by omega) t0, hp j (by omega), if_pos rfl]
        split
        · rfl
        · exact hlp t t0 t1
      · unfold ow
        rw [← he, if_neg hb]
        rw [List.length_append, List.length_singleton] at hW
        exact ⟨by rw [hp j (by omega), if_pos rfl], hW⟩
def chkL : List S67 → List Bool → List S33 → Int
  | [], _, _ => 0
  | e :: es, op, ops => if e.f0 < 0 ∨ e.f0 ≥ 64 ∨ e.f1 ≠ rdOf false op e.f0 then 3 else if evOk e ops = true then chkL es (op.set e.f0.toNat (!e.f1)) (ops.set e.f0.toNat e.f2) else 3
theorem chkGo_L (l0 : List S67) : ∀ d (j : Nat) (op : List Bool) (ops : List S33), j + d = l0.length → chkGo l0 d j op ops = chkL (l0.drop j) op ops
  | 0, j, op, ops, h => by rw [List.drop_eq_nil_of_le (by omega)]; rfl
  | d + 1, j, op, ops, h => by
    rw [drop67 l0 j (by omega)]
    unfold chkGo chkL
    rw [chkGo_L l0 d (j + 1) _ _ (by omega)]
def flt (l0 : List S67) (p : Nat → Bool) : Nat → Nat → List S67
  | 0, _ => []
  | d + 1, j => if p j = true then J67 l0 (j : Int) :: flt l0 p d (j + 1) else flt l0 p d (j + 1)
theorem keptL_flt (l0 : List S67) (p : Nat → Bool) : ∀ d (j : Nat) (out : List S67), keptL p l0 d j out = out ++ flt l0 p d j
  | 0, j, out => by simp [keptL, flt]
  | d + 1, j, out => by
    unfold keptL flt
    split
    · rw [keptL_flt l0 p d (j + 1)]; simp
    · exact keptL_flt l0 p d (j + 1) out
theorem rdOf_rep (n : Nat) (t : Int) : rdOf false (List.replicate n false) t = false := by
  unfold rdOf
  rw [List.getD_eq_getElem?_getD, List.getElem?_replicate]
  split <;> rfl
theorem keptL_congr (l0 : List S67) (p p' : Nat → Bool) : ∀ d (j : Nat) (out : List S67), (∀ i, j ≤ i → i < j + d → p i = p' i) → keptL p l0 d j out = keptL p' l0 d j out
  | 0, _, _, _ => rfl
  | d + 1, j, out, h => by
    unfold keptL
    rw [h j (by omega) (by omega)]
    split
    · exact keptL_congr l0 p p' d (j + 1) _ fun i a b => h i (by omega) (by omega)
    · exact keptL_congr l0 p p' d (j + 1) _ fun i a b => h i (by omega) (by omega)
theorem pairsGo_refl (a : List S70) : ∀ d j, pairsGo a a d j = true
  | 0, _ => rfl
  | d + 1, j => by unfold pairsGo; rw [pairsGo_refl a d (j + 1)]; simp
theorem evSame_refl (a : S67) : evSame a a = true := by
  unfold evSame sameRetB opSame
  simp [pairsGo_refl]
theorem seGo_refl (a : List S67) : ∀ d j, seGo a a d j = true
  | 0, _ => rfl
  | d + 1, j => by unfold seGo; rw [seGo_refl a d (j + 1), evSame_refl]; simp
theorem seB_refl (a : List S67) : seB a a = true := by
  unfold seB
  rw [seGo_refl]
  simp
end Go.Proofs.Ytagdkmcgepidoaa.P
/- P5 -/
namespace Go.Proofs.Ytagdkmcgepidoaa.P
open Go.RowKit Go.Proofs.YtagdkmcgepidoaaW.PrintWords Go.Proofs.YtagdkmcgepidoaaW.PrintLast Go.Proofs.YtagdkmcgepidoaaW.PrintMore
theorem places_go (r : List S38) (n : Nat) (own : Nat → Int) (hO : Own r n own) (hr : r.length ≤ 100000) : ∀ d (m : Nat) (x : List Int) (k : Nat), m + d = r.length → d < k → x.length = n → (∀ i : Nat, i < n → own i < m → rd x (i : Int) = own i) →
    ∃ wh, event_places.l0 k x r (r.length : Int) (m : Int) = some wh ∧ wh.length = n ∧ ∀ i : Nat, i < n → rd wh (i : Int) = own i
  | 0, m, x, k, hd, hk, hx, hI => by
    obtain ⟨k, rfl⟩ : ∃ k', k = k' + 1 := ⟨k - 1, by omega⟩
    refine ⟨x, ?_, hx, fun i hi => hI i hi (by have := hO.al i hi; omega)⟩
    simp only [event_places.l0]
    rw [if_neg (by omega)]
  | d + 1, m, x, k, hd, hk, hx, hI => by
    obtain ⟨k, rfl⟩ : ∃ k', k = k' + 1 := ⟨k - 1, by omega⟩
    obtain ⟨a, b⟩ := hO.fr (m : Int) (by omega) (by omega)
    have hn : ∀ y : List Int, y = x.set (J38 r (m : Int)).f3.toNat (m : Int) → ∀ i : Nat, i < n → own i < ((m + 1 : Nat) : Int) → ((J38 r (m : Int)).f4 ≠ (i : Int)) → rd y (i : Int) = own i := by
      intro y hy i hi h1 h2
      rw [hy, rd_set _ _ _ _ (by omega) (by omega)]
      obtain ⟨-, h3⟩ := hO.al i hi
      by_cases e1 : own i = (m : Int)
      · rw [e1] at h3
        rw [if_pos (by omega), e1]
      · rw [if_neg (fun hh => e1 (by rw [← hh] at b; simpa using b))]
        exact hI i hi (by omega)
    rcases hO.tw (m : Int) (by omega) (by omega) with h4 | ⟨h4, h5⟩
    · obtain ⟨wh, w1, w2, w3⟩ := places_go r n own hO hr d (m + 1) (x.set (J38 r (m : Int)).f3.toNat (m : Int)) k (by omega) (by omega) (by simpa using hx) (fun i hi hlt => hn _ rfl i hi hlt (by omega))
      refine ⟨wh, ?_, w2, w3⟩
      simp only [event_places.l0]
      rw [if_pos (by omega), if_pos (by omega), if_pos (by omega), if_pos a.1, if_pos (by omega)]
      simp only [Option.bind_some]
      rw [if_neg (by omega), wrap_succ (by omega)]
      exact w1
    · obtain ⟨wh, w1, w2, w3⟩ := places_go r n own hO hr d (m + 1) ((x.set (J38 r (m : Int)).f3.toNat (m : Int)).set (J38 r (m : Int)).f4.toNat (m : Int)) k (by omega) (by omega) (by simpa using hx) (fun i hi hlt => by
        rw [rd_set _ _ _ _ (by rw [List.length_set]; omega) (by omega)]
        by_cases e1 : (i : Int) = (J38 r (m : Int)).f4
        · rw [if_pos e1]
          rw [← e1] at h5
          simpa using h5.symm
        · rw [if_neg e1]
          exact hn _ rfl i hi hlt (fun hh => e1 hh.symm))
      refine ⟨wh, ?_, w2, w3⟩
      simp only [event_places.l0]
      rw [if_pos (by omega), if_pos (by omega), if_pos (by omega), if_pos a.1, if_pos (by omega)]
      simp only [Option.bind_some]
      rw [if_pos (by omega), if_pos h4.1, if_pos (by omega), wrap_succ (by omega)]
      exact w1
theorem places_val (l0 : List S67) (r : List S38) (own : Nat → Int) (hO : Own r l0.length own) (hl : l0.length ≤ 100000) (hr : r.length ≤ l0.length) : ∃ wh, event_places.f 200002 l0 r = some wh ∧ wh.length = l0.length ∧ ∀ i : Nat, i < l0.length → rd wh (i : Int) = own i := by
  obtain ⟨wh, w1, w2, w3⟩ := places_go r l0.length own hO (by omega) r.length 0 (List.replicate l0.length 0) 200002 (by omega) (by omega) (by simp) (fun i hi h => by have := hO.al i hi; omega)
  refine ⟨wh, ?_, w2, w3⟩
  unfold event_places.f
  rw [if_pos (by omega), if_pos (by omega)]
  exact w1
theorem all_of (l0 : List S67) (hp : ∀ e ∈ l0, e.f3.f3.length ≤ 1048576) (hE : event_Check.f l0 = some 0) : l0.length ≤ 100000 ∧ chkGo l0 l0.length 0 (List.replicate 64 false) (List.replicate 64 z33) = 0 ∧ ∃ (r : List S38) (own : Nat → Int),
    event_Calls.f l0 = some (r, 0) ∧ Ev (fun k => larchref05_Calls.f k l0) (r.map conv, 0) ∧ Ev (fun k => larchref05_calls.f k l0) (r.map conv) ∧ r.length ≤ l0.length ∧ Own r l0.length own ∧ ∀ g : Int → Bool, resp l0 (fun i => g (own i)) l0.length 0 (fun _ => g 0) := by
  obtain ⟨c, hc, hR, h0⟩ := check_both l0
  rw [hE] at hc
  cases hc
  obtain ⟨hl, hchk⟩ := h0 rfl
  obtain ⟨r, ha, hb, hk⟩ := calls_both l0 hl hp l0.length 0 (List.replicate 64 false) (List.replicate 64 z33) (List.replicate 64 0) [] (by omega) (by simp) (by simp) (by simp) hchk (fun i _ _ hi => by
    rw [rdOf_rep] at hi
    cases hi) (by simp) (by simp)
  obtain ⟨own, -, hO, hG, -⟩ := own_go l0 l0.length 0 (List.replicate 64 false) (List.replicate 64 z33) (List.replicate 64 0) [] r (fun _ => 0) (by simp) (by simp) hchk (fun t _ _ ht => by
    rw [rdOf_rep] at ht
    cases ht) ⟨fun q q0 q1 => by simp at q1; omega, fun q q0 q1 => by simp at q1; omega, fun i hi => by omega, fun q q0 q1 => by simp at q1; omega⟩ ha
  rw [Nat.zero_add] at hO
  have hcl : Ev (fun k => larchref05_calls.f k l0) (r.map conv) := hb.congr fun k => by
    unfold larchref05_calls.f
    rw [if_pos (by decide)]
    rfl
  refine ⟨hl, hchk, r, own, ?_, ?_, hcl, hk.len, hO, fun g => hG g _ fun t t0 t1 => ?_⟩
  · unfold event_Calls.f event_calls.f
    rw [hE]
    simp only [Option.bind_some, if_true]
    rw [ha]
    rfl
  · unfold larchref05_Calls.f
    refine Ev.bind hR ?_
    simp only [if_true]
    exact Ev.bind hcl (Ev.const _)
  · unfold rd
    rw [List.getD_eq_getElem?_getD, List.getElem?_replicate]
    split <;> rfl
end Go.Proofs.Ytagdkmcgepidoaa.P
/- P7 -/
namespace Go.Proofs.Ytagdkmcgepidoaa.P
open Go.RowKit Go.Proofs.YtagdkmcgepidoaaW.PrintWords Go.Proofs.YtagdkmcgepidoaaW.PrintLast Go.Proofs.YtagdkmcgepidoaaW.PrintMore
section
variable (xs : List S38)
def alK (s i : Nat) : Nat → Nat → Bool
  | 0, _ => true
  | d + 1, k => (k == i || (s.testBit k || !aheadB (J38 xs (k : Int)) (J38 xs (i : Int)))) && alK s i d (k + 1)
def okS (s i : Nat) : Bool := !s.testBit i && alK xs s i xs.length 0
end
end Go.Proofs.Ytagdkmcgepidoaa.P
/- P8 -/
namespace Go.Proofs.Ytagdkmcgepidoaa.P
open Go.RowKit Go.Proofs.YtagdkmcgepidoaaW.PrintWords Go.Proofs.YtagdkmcgepidoaaW.PrintLast Go.Proofs.YtagdkmcgepidoaaW.PrintMore
structure Seq (l0 : List S67) (out : List S38) (j : Nat) : Prop where
  bd : ∀ q : Int, 0 ≤ q → q < out.length → (0 ≤ (J38 out q).f3 ∧ (J38 out q).f3 < j) ∧ ((J38 out q).f4 = -1 ∨ (0 ≤ (J38 out q).f4 ∧ (J38 out q).f4 < j))
  mo : ∀ q q' : Int, 0 ≤ q → q < q' → q' < out.length → (J38 out q).f3 < (J38 out q').f3
  th : ∀ q q' : Int, 0 ≤ q → q < q' → q' < out.length → (J38 out q).f0 = (J38 out q').f0 → 0 ≤ (J38 out q).f4 ∧ (J38 out q).f4 < (J38 out q').f3
  e1 : ∀ i : Nat, i < j → (J67 l0 (i : Int)).f1 = true → ∃ q : Int, (0 ≤ q ∧ q < out.length) ∧ (J38 out q).f4 = i
  e0 : ∀ i : Nat, i < j → (J67 l0 (i : Int)).f1 = false → ∃ q : Int, (0 ≤ q ∧ q < out.length) ∧ (J38 out q).f3 = i
end Go.Proofs.Ytagdkmcgepidoaa.P
/- P10 -/
namespace Go.Proofs.Ytagdkmcgepidoaa.P
open Go.RowKit Go.Proofs.YtagdkmcgepidoaaW.PrintWords Go.Proofs.YtagdkmcgepidoaaW.PrintLast Go.Proofs.YtagdkmcgepidoaaW.PrintMore
def sm (g : Nat → Nat) : Nat → Nat
  | 0 => 0
  | d + 1 => sm g d + g d
section
variable (xs : List S38)
def fF : Nat → Nat → Nat
  | 0, _ => 0
  | k + 1, t => if t = 0 then 1 else sm (fun i => if (t.testBit i && okS xs (t ^^^ 2 ^ i) i) = true then fF k (t ^^^ 2 ^ i) else 0) xs.length
def F (t : Nat) : Nat := fF xs (t + 1) t
def hT (s i0 t i : Nat) : Nat := if (t.testBit i && (decide (t ^^^ 2 ^ i < s ∨ (t ^^^ 2 ^ i = s ∧ i < i0)) && okS xs (t ^^^ 2 ^ i) i)) = true then F xs (t ^^^ 2 ^ i) else 0
def hV (s i0 t : Nat) : Nat := (if t = 0 then 1 else 0) + sm (hT xs s i0 t) xs.length
variable (hup : ∀ i k : Nat, i < k → k < xs.length → aheadB (J38 xs (k : Int)) (J38 xs (i : Int)) = false)
end
end Go.Proofs.Ytagdkmcgepidoaa.P
/- P11 -/
namespace Go.Proofs.Ytagdkmcgepidoaa.P
open Go.RowKit Go.Proofs.YtagdkmcgepidoaaW.PrintWords Go.Proofs.YtagdkmcgepidoaaW.PrintLast Go.Proofs.YtagdkmcgepidoaaW.PrintMore
theorem flt_succ (l0 : List S67) (p : Nat → Bool) (d j : Nat) : flt l0 p (d + 1) j = if p j = true then J67 l0 (j : Int) :: flt l0 p d (j + 1) else flt l0 p d (j + 1) := rfl
end Go.Proofs.Ytagdkmcgepidoaa.P
/- P12 -/
namespace Go.Proofs.Ytagdkmcgepidoaa.P
open Go.RowKit Go.Proofs.YtagdkmcgepidoaaW.PrintWords Go.Proofs.YtagdkmcgepidoaaW.PrintLast Go.Proofs.YtagdkmcgepidoaaW.PrintMore
structure All (l0 : List S67) (r : List S38) (own : Nat → Int) : Prop where
  len : l0.length ≤ 100000
  chk : chkGo l0 l0.length 0 (List.replicate 64 false) (List.replicate 64 z33) = 0
  calls : event_Calls.f l0 = some (r, 0)
  go : callsGo l0 l0.length 0 (List.replicate 64 0) [] = some r
  rl : r.length ≤ l0.length
  ow : Own r l0.length own
  sq : Seq l0 r l0.length
  wk : Go.Proofs.Ytagdkmcgepidoaa.P.ow l0 own l0.length 0 (List.replicate 64 0) 0
  half : r.length + (donL r).length = l0.length
  rs : ∀ g : Int → Bool, resp l0 (fun i => g (own i)) l0.length 0 (fun _ => g 0)
theorem All.tw {l0 : List S67} {r : List S38} {own : Nat → Int} (h : All l0 r own) : ∀ x ∈ r, x.f4 = -1 ∨ 0 ≤ x.f4 := by
  intro x hx
  obtain ⟨i, hi, rfl⟩ := List.mem_iff_getElem.1 hx
  rw [rd38_get r i hi]
  rcases h.ow.tw (i : Int) (by omega) (by omega) with h | h
  · exact .inl h
  · exact .inr h.1.1
theorem All.lt {l0 : List S67} {r : List S38} {own : Nat → Int} (h : All l0 r own) : ∀ x ∈ r, x.f4 = -1 ∨ x.f3 < x.f4 := by
  intro x hx
  obtain ⟨i, hi, rfl⟩ := List.mem_iff_getElem.1 hx
  rw [rd38_get r i hi]
  exact h.ow.lt (i : Int) (by omega) (by omega)
structure Rising (xs : List S38) : Prop where
  mo : ∀ i k : Nat, i < k → k < xs.length → (J38 xs (i : Int)).f3 < (J38 xs (k : Int)).f3
  lt : ∀ i : Nat, i < xs.length → (J38 xs (i : Int)).f4 = -1 ∨ (J38 xs (i : Int)).f3 < (J38 xs (i : Int)).f4
end Go.Proofs.Ytagdkmcgepidoaa.P
