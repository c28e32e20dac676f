/- P.eventRows_holds, part 23 of 25: the contracts of the Go functions that the law calls, its own walk, and its plain law, for every input that the statement speaks of. -/
import Derived.Test.YtagdkmcgepidoaaMRw18
import Derived.Test.YtagdkmcgepidoaaMRw7
import Derived.Test.YtagdkmcgepidoaaMRw8
import Derived.Test.YtagdkmcgepidoaaMRw9
import Derived.Test.YtagdkmcgepidoaaMRw2
import Derived.Test.YtagdkmcgepidoaaMRw11
import Derived.Test.YtagdkmcgepidoaaMRw20
import Derived.Test.YtagdkmcgepidoaaMRw13
import Derived.Test.YtagdkmcgepidoaaMRw21
import Derived.Test.YtagdkmcgepidoaaMRw17
import Derived.Test.YtagdkmcgepidoaaMRw16
set_option linter.unusedVariables false
set_option linter.unusedSimpArgs false
/- P4 -/
namespace Go.Proofs.Ytagdkmcgepidoaa.P
open Go.RowKit Go.Proofs.YtagdkmcgepidoaaW.PrintWords Go.Proofs.YtagdkmcgepidoaaW.PrintLast Go.Proofs.YtagdkmcgepidoaaW.PrintMore
theorem chk_step {l0 : List S67} {d j : Nat} {op : List Bool} {ops : List S33} (h : chkGo l0 (d + 1) j op ops = 0) :
    (0 ≤ (J67 l0 (j : Int)).f0 ∧ (J67 l0 (j : Int)).f0 < 64) ∧ (J67 l0 (j : Int)).f1 = rdOf false op (J67 l0 (j : Int)).f0 ∧ evOk (J67 l0 (j : Int)) ops = true ∧ chkGo l0 d (j + 1) (op.set (J67 l0 (j : Int)).f0.toNat (!(J67 l0 (j : Int)).f1)) (ops.set (J67 l0 (j : Int)).f0.toNat (J67 l0 (j : Int)).f2) = 0 := by
  unfold chkGo at h
  split at h
  · omega
  rename_i h1
  split at h
  rotate_left
  · omega
  rename_i h2
  exact ⟨by omega, Decidable.byContradiction fun hh => h1 (.inr (.inr hh)), h2, h⟩
theorem rd38_set (x : List S38) (a i : Int) (v : S38) (ha : 0 ≤ a ∧ a < x.length) (hi : 0 ≤ i) : J38 (x.set a.toNat v) i = if i = a then v else J38 x i := by
  unfold J38
  rw [List.getD_eq_getElem?_getD, List.getElem?_set]
  by_cases e : i = a
  · subst e
    rw [if_pos rfl, if_pos (by omega), if_pos rfl]
    rfl
  · rw [if_neg (by omega), if_neg e, List.getD_eq_getElem?_getD]
theorem rd38_app (x : List S38) (v : S38) (i : Int) (hi : 0 ≤ i ∧ i ≤ x.length) : J38 (x ++ [v]) i = if i = x.length then v else J38 x i := by
  unfold J38
  rw [List.getD_eq_getElem?_getD]
  by_cases e : i = x.length
  · rw [if_pos e, List.getElem?_append_right (by omega), show i.toNat - x.length = 0 by omega]
    rfl
  · rw [if_neg e, List.getElem?_append_left (by omega), List.getD_eq_getElem?_getD]
structure Own (out : List S38) (j : Nat) (own : Nat → Int) : Prop where
  fr : ∀ q : Int, 0 ≤ q → q < out.length → (0 ≤ (J38 out q).f3 ∧ (J38 out q).f3 < j) ∧ own (J38 out q).f3.toNat = q
  tw : ∀ q : Int, 0 ≤ q → q < out.length → (J38 out q).f4 = -1 ∨ ((0 ≤ (J38 out q).f4 ∧ (J38 out q).f4 < j) ∧ own (J38 out q).f4.toNat = q)
  al : ∀ i : Nat, i < j → (0 ≤ own i ∧ own i < out.length) ∧ ((J38 out (own i)).f3 = i ∨ (J38 out (own i)).f4 = i)
  lt : ∀ q : Int, 0 ≤ q → q < out.length → (J38 out q).f4 = -1 ∨ (J38 out q).f3 < (J38 out q).f4
def resp (l0 : List S67) (p : Nat → Bool) : Nat → Nat → (Int → Bool) → Prop
  | 0, _, _ => True
  | d + 1, j, lp => if (J67 l0 (j : Int)).f1 = true then p j = lp (J67 l0 (j : Int)).f0 ∧ resp l0 p d (j + 1) lp else resp l0 p d (j + 1) (fun t => if t = (J67 l0 (j : Int)).f0 then p j else lp t)
def ow (l0 : List S67) (own : Nat → Int) : Nat → Nat → List Int → Nat → Prop
  | 0, _, _, _ => True
  | d + 1, j, last, m => if (J67 l0 (j : Int)).f1 = true then own j = rd last (J67 l0 (j : Int)).f0 ∧ ow l0 own d (j + 1) last m else own j = (m : Int) ∧ ow l0 own d (j + 1) (last.set (J67 l0 (j : Int)).f0.toNat (m : Int)) (m + 1)
theorem own_go (l0 : List S67) : ∀ d (j : Nat) (op : List Bool) (ops : List S33) (last : List Int) (out r : List S38) (own : Nat → Int), op.length = 64 → last.length = 64 → chkGo l0 d j op ops = 0 →
    (∀ t : Int, 0 ≤ t → t < 64 → rdOf false op t = true → (0 ≤ rd last t ∧ rd last t < out.length) ∧ (J38 out (rd last t)).f0 = t ∧ (J38 out (rd last t)).f4 = -1) → Own out j own → callsGo l0 d j last out = some r →
    ∃ own' : Nat → Int, (∀ i, i < j → own' i = own i) ∧ Own r (j + d) own' ∧ (∀ g : Int → Bool, ∀ lp : Int → Bool, (∀ t : Int, 0 ≤ t → t < 64 → lp t = g (rd last t)) → resp l0 (fun i => g (own' i)) d j lp) ∧ ow l0 own' d j last out.length
  | 0, j, op, ops, last, out, r, own, _, _, _, _, hO, hr => by
    simp only [callsGo, Option.some.injEq] at hr
    subst hr
    exact ⟨own, fun _ _ => rfl, hO, fun _ _ _ => trivial, trivial⟩
  | d + 1, j, op, ops, last, out, r, own, h1, h2, hc, hop, hO, hr => by
    obtain ⟨hf, hf1, -, hc'⟩ := chk_step hc
    obtain ⟨e, he⟩ : ∃ e, e = J67 l0 (j : Int) := ⟨_, rfl⟩
    simp only [callsGo, ← he] at hr
    rw [← he] at hf hf1 hc'
    rw [if_pos hf] at hr
    by_cases hb : e.f1 = true
    · obtain ⟨hq, hq0, hq4⟩ := hop e.f0 hf.1 hf.2 (by rw [← hf1]; exact hb)
      obtain ⟨q, hqe⟩ : ∃ q, q = rd last e.f0 := ⟨_, rfl⟩
      rw [if_pos hb] at hr
      rw [← hqe] at hq hq0 hq4 hr
      split at hr
      rotate_left
      · cases hr
      rename_i hg
      obtain ⟨v, hv⟩ : ∃ v : S38, v = ⟨(J38 out q).f0, (J38 out q).f1, e.f3, (J38 out q).f3, (j : Int)⟩ := ⟨_, rfl⟩
      rw [← hv] at hr
      have hv0 : v.f0 = e.f0 := by rw [hv]; exact hq0
      have hv3 : v.f3 = (J38 out q).f3 := by rw [hv]
      have hv4 : v.f4 = (j : Int) := by rw [hv]
      clear hv hg
      have rs : ∀ i : Int, 0 ≤ i → J38 (out.set q.toNat v) i = if i = q then v else J38 out i := fun i hi => rd38_set out q i v hq hi
      have hO' : Own (out.set q.toNat v) (j + 1) (fun i => if i = j then q else own i) := by
        refine ⟨fun i i0 i1 => ?_, fun i i0 i1 => ?_, fun i hi => ?_, fun i i0 i1 => ?_⟩
        rotate_left 3
        · rw [List.length_set] at i1
          rw [rs i i0]
          by_cases e1 : i = q
          · subst e1
            rw [if_pos rfl, hv3, hv4]
            exact .inr (hO.fr i i0 i1).1.2
          · rw [if_neg e1]
            exact hO.lt i i0 i1
        · rw [List.length_set] at i1
          rw [rs i i0]
          obtain ⟨a, b⟩ := hO.fr i i0 i1
          by_cases e1 : i = q
          · subst e1
            rw [if_pos rfl, hv3]
            exact ⟨by omega, by rw [if_neg (by omega)]; exact b⟩
          · rw [if_neg e1]
            exact ⟨by omega, by rw [if_neg (by omega)]; exact b⟩
        · rw [List.length_set] at i1
          rw [rs i i0]
          by_cases e1 : i = q
          · subst e1
            rw [if_pos rfl, hv4]
            right
            exact ⟨by omega, by rw [if_pos (by omega)]⟩
          · rw [if_neg e1]
            rcases hO.tw i i0 i1 with a | ⟨a, b⟩
            · exact .inl a
            · exact .inr ⟨by omega, by rw [if_neg (by omega)]; exact b⟩
        · rw [List.length_set]
          by_cases e2 : i = j
          · rw [if_pos e2, rs q hq.1, if_pos rfl, hv4]
            exact ⟨hq, .inr (by omega)⟩
          · rw [if_neg e2]
            obtain ⟨a, b⟩ := hO.al i (by omega)
            rw [rs _ a.1]
            refine ⟨a, ?_⟩
            by_cases e1 : own i = q
            · rw [if_pos e1, hv3]
              rw [e1] at b
              rcases b with b | b
              · exact .inl b
              · omega
            · rw [if_neg e1]
              exact b
      obtain ⟨own', hp, hO2, hR, hW⟩ := own_go l0 d (j + 1) _ _ last _ r _ (by simpa using h1) h2 hc' (fun t t0 t1 ht => by
        rw [rdOf_set _ _ _ _ (by omega) t0] at ht
        by_cases e1 : t = e.f0
        · rw [if_pos e1, hb] at ht; simp at ht
        · rw [if_neg e1] at ht
          obtain ⟨a, b, c⟩ := hop t t0 t1 ht
          rw [List.length_set, rs _ a.1]
          have : rd last t ≠ q := fun hh => e1 (by rw [hh] at b; omega)
          rw [if_neg this]
          exact ⟨a, b, c⟩) hO' hr
      refine ⟨own', fun i hi => ?_, by rw [show j + (d + 1) = j + 1 + d by omega]; exact hO2, fun g lp hlp => ?_, ?_⟩
      · rw [hp i (by omega)]
        exact if_neg (by omega)
      · unfold resp
        rw [← he, if_pos hb]
        refine ⟨?_, hR g lp hlp⟩
        rw [hp j (by omega), hlp e.f0 hf.1 hf.2, ← hqe, if_pos rfl]
      · unfold ow
        rw [← he, if_pos hb]
        rw [List.length_set] at hW
        exact ⟨by rw [hp j (by omega), ← hqe, if_pos rfl], hW⟩
    · have hb' : e.f1 = false := by simpa using hb
      rw [if_neg hb] at hr
      split at hr
      rotate_left
      · cases hr
      obtain ⟨v, hv⟩ : ∃ v : S38, v = ⟨e.f0, e.f2, z36, (j : Int), -1⟩ := ⟨_, rfl⟩
      rw [← hv] at hr
      have hv0 : v.f0 = e.f0 := by rw [hv]
      have hv3 : v.f3 = (j : Int) := by rw [hv]
      have hv4 : v.f4 = -1 := by rw [hv]
      clear hv
      have rs : ∀ i : Int, 0 ≤ i ∧ i ≤ out.length → J38 (out ++ [v]) i = if i = out.length then v else J38 out i := fun i hi => rd38_app out v i hi
      have hO' : Own (out ++ [v]) (j + 1) (fun i => if i = j then (out.length : Int) else own i) := by
        refine ⟨fun i i0 i1 => ?_, fun i i0 i1 => ?_, fun i hi => ?_, fun i i0 i1 => ?_⟩
        rotate_left 3
        · rw [List.length_append, List.length_singleton] at i1
          rw [rs i (by omega)]
          by_cases e1 : i = out.length
          · rw [if_pos e1, hv4]
            exact .inl rfl
          · rw [if_neg e1]
            exact hO.lt i i0 (by omega)
        · rw [List.length_append, List.length_singleton] at i1
          rw [rs i (by omega)]
          by_cases e1 : i = out.length
          · rw [if_pos e1, hv3]
            exact ⟨by omega, by rw [if_pos (by omega)]; exact e1.symm⟩
          · rw [if_neg e1]
            obtain ⟨a, b⟩ := hO.fr i i0 (by omega)
            exact ⟨by omega, by rw [if_neg (by omega)]; exact b⟩
        · rw [List.length_append, List.length_singleton] at i1
          rw [rs i (by omega)]
          by_cases e1 : i = out.length
          · rw [if_pos e1, hv4]
            exact .inl rfl
          · rw [if_neg e1]
            rcases hO.tw i i0 (by omega) with a | ⟨a, b⟩
            · exact .inl a
            · exact .inr ⟨by omega, by rw [if_neg (by omega)]; exact b⟩
        · rw [List.length_append, List.length_singleton]
          by_cases e2 : i = j
          · rw [if_pos e2, rs _ (by omega), if_pos rfl, hv3]
            exact ⟨by omega, .inl (by omega)⟩
          · rw [if_neg e2]
            obtain ⟨a, b⟩ := hO.al i (by omega)
            rw [rs _ (by omega), if_neg (by omega)]
            exact ⟨by omega, b⟩
      obtain ⟨own', hp, hO2, hR, hW⟩ := own_go l0 d (j + 1) _ _ (last.set e.f0.toNat (out.length : Int)) _ r _ (by simpa using h1) (by simpa using h2) hc' (fun t t0 t1 ht => by
        rw [rdOf_set _ _ _ _ (by omega) t0] at ht
        rw [rd_set _ _ _ _ (by omega) t0, List.length_append, List.length_singleton]
        by_cases e1 : t = e.f0
        · rw [if_pos e1, rs _ (by omega), if_pos rfl, hv0, hv4]
          exact ⟨by omega, e1.symm, rfl⟩
        · rw [if_neg e1] at ht
          obtain ⟨a, b, c⟩ := hop t t0 t1 ht
          rw [if_neg e1, rs _ (by omega), if_neg (by omega)]
          exact ⟨by omega, b, c⟩) hO' hr
      refine ⟨own', fun i hi => ?_, by rw [show j + (d + 1) = j + 1 + d by omega]; exact hO2, fun g lp hlp => ?_, ?_⟩
      · rw [hp i (by omega)]
        exact if_neg (by omega)
      · unfold resp
        rw [← he, if_neg hb]
        refine hR g _ fun t t0 t1 => ?_
        rw [rd_set _ _ _ _ (by omega) t0, hp j (by omega), if_pos rfl]
        split
        · rfl
        · exact hlp t t0 t1
      · unfold ow
        rw [← he, if_neg hb]
        rw [List.length_append, List.length_singleton] at hW
        exact ⟨by rw [hp j (by omega), if_pos rfl], hW⟩
def chkL : List S67 → List Bool → List S33 → Int
  | [], _, _ => 0
  | e :: es, op, ops => if e.f0 < 0 ∨ e.f0 ≥ 64 ∨ e.f1 ≠ rdOf false op e.f0 then 3 else if evOk e ops = true then chkL es (op.set e.f0.toNat (!e.f1)) (ops.set e.f0.toNat e.f2) else 3
theorem chkGo_L (l0 : List S67) : ∀ d (j : Nat) (op : List Bool) (ops : List S33), j + d = l0.length → chkGo l0 d j op ops = chkL (l0.drop j) op ops
  | 0, j, op, ops, h => by rw [List.drop_eq_nil_of_le (by omega)]; rfl
  | d + 1, j, op, ops, h => by
    rw [drop67 l0 j (by omega)]
    unfold chkGo chkL
    rw [chkGo_L l0 d (j + 1) _ _ (by omega)]
def flt (l0 : List S67) (p : Nat → Bool) : Nat → Nat → List S67
  | 0, _ => []
  | d + 1, j => if p j = true then J67 l0 (j : Int) :: flt l0 p d (j + 1) else flt l0 p d (j + 1)
theorem keptL_flt (l0 : List S67) (p : Nat → Bool) : ∀ d (j : Nat) (out : List S67), keptL p l0 d j out = out ++ flt l0 p d j
  | 0, j, out => by simp [keptL, flt]
  | d + 1, j, out => by
    unfold keptL flt
    split
    · rw [keptL_flt l0 p d (j + 1)]; simp
    · exact keptL_flt l0 p d (j + 1) out
theorem flt_chk (l0 : List S67) (p : Nat → Bool) : ∀ d (j : Nat) (op opK : List Bool) (ops opsK : List S33) (lp : Int → Bool), op.length = 64 → opK.length = 64 → ops.length = 64 → opsK.length = 64 → chkGo l0 d j op ops = 0 → resp l0 p d j lp →
    (∀ t : Int, 0 ≤ t → t < 64 → rdOf false opK t = (rdOf false op t && lp t) ∧ (rdOf false opK t = true → J33 opsK t = J33 ops t)) → chkL (flt l0 p d j) opK opsK = 0
  | 0, _, _, _, _, _, _, _, _, _, _, _, _, _ => rfl
  | d + 1, j, op, opK, ops, opsK, lp, n1, n2, n3, n4, hc, hR, hI => by
    obtain ⟨hf, hf1, hok, hc'⟩ := chk_step hc
    unfold resp at hR
    obtain ⟨e, he⟩ : ∃ e, e = J67 l0 (j : Int) := ⟨_, rfl⟩
    rw [← he] at hf hf1 hok hc' hR
    have hE := hI e.f0 hf.1 hf.2
    unfold flt
    rw [← he]
    by_cases hb : e.f1 = true
    · rw [if_pos hb] at hR
      obtain ⟨hpj, hR⟩ := hR
      rw [← hf1, hb, Bool.true_and, ← hpj] at hE
      by_cases hpt : p j = true
      · rw [if_pos hpt]
        rw [hpt] at hE
        unfold chkL
        have hok' : evOk e opsK = true := by
          unfold evOk at hok ⊢
          rw [if_pos hb] at hok ⊢
          rw [hE.2 hE.1]
          exact hok
        rw [if_neg (by rw [hE.1, hb]; simp; omega), if_pos hok']
        refine flt_chk l0 p d (j + 1) _ _ _ _ lp (by simpa using n1) (by simpa using n2) (by simpa using n3) (by simpa using n4) hc' hR fun t t0 t1 => ?_
        rw [rdOf_set _ _ _ _ (by omega) t0, rdOf_set _ _ _ _ (by omega) t0, rd33_set _ _ _ _ (by omega) t0, rd33_set _ _ _ _ (by omega) t0]
        by_cases e1 : t = e.f0
        · rw [if_pos e1, if_pos e1, if_pos e1, if_pos e1, hb]
          simp
        · rw [if_neg e1, if_neg e1, if_neg e1, if_neg e1]
          exact hI t t0 t1
      · rw [if_neg hpt]
        have hpf : p j = false := by simpa using hpt
        rw [hpf] at hE
        refine flt_chk l0 p d (j + 1) _ opK _ opsK lp (by simpa using n1) n2 (by simpa using n3) n4 hc' hR fun t t0 t1 => ?_
        rw [rdOf_set _ _ _ _ (by omega) t0, rd33_set _ _ _ _ (by omega) t0]
        by_cases e1 : t = e.f0
        · rw [if_pos e1, if_pos e1, hb, e1, hE.1]
          simp
        · rw [if_neg e1, if_neg e1]
          exact hI t t0 t1
    · have hb' : e.f1 = false := by simpa using hb
      rw [if_neg hb] at hR
      rw [← hf1, hb', Bool.false_and] at hE
      by_cases hpt : p j = true
      · rw [if_pos hpt]
        unfold chkL
        have hok' : evOk e opsK = true := by
          unfold evOk at hok ⊢
          rw [if_neg hb] at hok ⊢
          exact hok
        rw [if_neg (by rw [hE.1, hb']; simp; omega), if_pos hok']
        refine flt_chk l0 p d (j + 1) _ _ _ _ _ (by simpa using n1) (by simpa using n2) (by simpa using n3) (by simpa using n4) hc' hR fun t t0 t1 => ?_
        rw [rdOf_set _ _ _ _ (by omega) t0, rdOf_set _ _ _ _ (by omega) t0, rd33_set _ _ _ _ (by omega) t0, rd33_set _ _ _ _ (by omega) t0]
        by_cases e1 : t = e.f0
        · rw [if_pos e1, if_pos e1, if_pos e1, if_pos e1, hb', if_pos e1, hpt]
          simp
        · rw [if_neg e1, if_neg e1, if_neg e1, if_neg e1, if_neg e1]
          exact hI t t0 t1
      · rw [if_neg hpt]
        have hpf : p j = false := by simpa using hpt
        refine flt_chk l0 p d (j + 1) _ opK _ opsK _ (by simpa using n1) n2 (by simpa using n3) n4 hc' hR fun t t0 t1 => ?_
        rw [rdOf_set _ _ _ _ (by omega) t0, rd33_set _ _ _ _ (by omega) t0]
        by_cases e1 : t = e.f0
        · rw [if_pos e1, if_pos e1, if_pos e1, hb', e1, hE.1, hpf]
          simp
        · rw [if_neg e1, if_neg e1, if_neg e1]
          exact hI t t0 t1
theorem rdOf_rep (n : Nat) (t : Int) : rdOf false (List.replicate n false) t = false := by
  unfold rdOf
  rw [List.getD_eq_getElem?_getD, List.getElem?_replicate]
  split <;> rfl
theorem kept_chk (l0 : List S67) (p : Nat → Bool) (lp : Int → Bool) (hl : l0.length ≤ 100000) (hc : chkGo l0 l0.length 0 (List.replicate 64 false) (List.replicate 64 z33) = 0) (hR : resp l0 p l0.length 0 lp) : event_Check.f (keptL p l0 l0.length 0 []) = some 0 := by
  have hlen := keptL_len p l0 l0.length 0 []
  unfold event_Check.f
  rw [if_neg (by simp at hlen; omega), chkGo_L _ _ 0 _ _ (by omega), List.drop_zero, keptL_flt, List.nil_append, flt_chk l0 p l0.length 0 (List.replicate 64 false) _ (List.replicate 64 z33) _ lp (by simp) (by simp) (by simp) (by simp) hc hR (fun t t0 t1 => by
    rw [rdOf_rep]
    exact ⟨rfl, fun h => by cases h⟩)]
theorem keptL_congr (l0 : List S67) (p p' : Nat → Bool) : ∀ d (j : Nat) (out : List S67), (∀ i, j ≤ i → i < j + d → p i = p' i) → keptL p l0 d j out = keptL p' l0 d j out
  | 0, _, _, _ => rfl
  | d + 1, j, out, h => by
    unfold keptL
    rw [h j (by omega) (by omega)]
    split
    · exact keptL_congr l0 p p' d (j + 1) _ fun i a b => h i (by omega) (by omega)
    · exact keptL_congr l0 p p' d (j + 1) _ fun i a b => h i (by omega) (by omega)
end Go.Proofs.Ytagdkmcgepidoaa.P
/- P5 -/
namespace Go.Proofs.Ytagdkmcgepidoaa.P
open Go.RowKit Go.Proofs.YtagdkmcgepidoaaW.PrintWords Go.Proofs.YtagdkmcgepidoaaW.PrintLast Go.Proofs.YtagdkmcgepidoaaW.PrintMore
theorem places_go (r : List S38) (n : Nat) (own : Nat → Int) (hO : Own r n own) (hr : r.length ≤ 100000) : ∀ d (m : Nat) (x : List Int) (k : Nat), m + d = r.length → d < k → x.length = n → (∀ i : Nat, i < n → own i < m → rd x (i : Int) = own i) →
    ∃ wh, event_places.l0 k x r (r.length : Int) (m : Int) = some wh ∧ wh.length = n ∧ ∀ i : Nat, i < n → rd wh (i : Int) = own i
  | 0, m, x, k, hd, hk, hx, hI => by
    obtain ⟨k, rfl⟩ : ∃ k', k = k' + 1 := ⟨k - 1, by omega⟩
    refine ⟨x, ?_, hx, fun i hi => hI i hi (by have := hO.al i hi; omega)⟩
    simp only [event_places.l0]
    rw [if_neg (by omega)]
  | d + 1, m, x, k, hd, hk, hx, hI => by
    obtain ⟨k, rfl⟩ : ∃ k', k = k' + 1 := ⟨k - 1, by omega⟩
    obtain ⟨a, b⟩ := hO.fr (m : Int) (by omega) (by omega)
    have hn : ∀ y : List Int, y = x.set (J38 r (m : Int)).f3.toNat (m : Int) → ∀ i : Nat, i < n → own i < ((m + 1 : Nat) : Int) → ((J38 r (m : Int)).f4 ≠ (i : Int)) → rd y (i : Int) = own i := by
      intro y hy i hi h1 h2
      rw [hy, rd_set _ _ _ _ (by omega) (by omega)]
      obtain ⟨-, h3⟩ := hO.al i hi
      by_cases e1 : own i = (m : Int)
      · rw [e1] at h3
        rw [if_pos (by omega), e1]
      · rw [if_neg (fun hh => e1 (by rw [← hh] at b; simpa using b))]
        exact hI i hi (by omega)
    rcases hO.tw (m : Int) (by omega) (by omega) with h4 | ⟨h4, h5⟩
    · obtain ⟨wh, w1, w2, w3⟩ := places_go r n own hO hr d (m + 1) (x.set (J38 r (m : Int)).f3.toNat (m : Int)) k (by omega) (by omega) (by simpa using hx) (fun i hi hlt => hn _ rfl i hi hlt (by omega))
      refine ⟨wh, ?_, w2, w3⟩
      simp only [event_places.l0]
      rw [if_pos (by omega), if_pos (by omega), if_pos (by omega), if_pos a.1, if_pos (by omega)]
      simp only [Option.bind_some]
      rw [if_neg (by omega), wrap_succ (by omega)]
      exact w1
    · obtain ⟨wh, w1, w2, w3⟩ := places_go r n own hO hr d (m + 1) ((x.set (J38 r (m : Int)).f3.toNat (m : Int)).set (J38 r (m : Int)).f4.toNat (m : Int)) k (by omega) (by omega) (by simpa using hx) (fun i hi hlt => by
        rw [rd_set _ _ _ _ (by rw [List.length_set]; omega) (by omega)]
        by_cases e1 : (i : Int) = (J38 r (m : Int)).f4
        · rw [if_pos e1]
          rw [← e1] at h5
          simpa using h5.symm
        · rw [if_neg e1]
          exact hn _ rfl i hi hlt (fun hh => e1 hh.symm))
      refine ⟨wh, ?_, w2, w3⟩
      simp only [event_places.l0]
      rw [if_pos (by omega), if_pos (by omega), if_pos (by omega), if_pos a.1, if_pos (by omega)]
      simp only [Option.bind_some]
      rw [if_pos (by omega), if_pos h4.1, if_pos (by omega), wrap_succ (by omega)]
      exact w1
theorem places_val (l0 : List S67) (r : List S38) (own : Nat → Int) (hO : Own r l0.length own) (hl : l0.length ≤ 100000) (hr : r.length ≤ l0.length) : ∃ wh, event_places.f 200002 l0 r = some wh ∧ wh.length = l0.length ∧ ∀ i : Nat, i < l0.length → rd wh (i : Int) = own i := by
  obtain ⟨wh, w1, w2, w3⟩ := places_go r l0.length own hO (by omega) r.length 0 (List.replicate l0.length 0) 200002 (by omega) (by omega) (by simp) (fun i hi h => by have := hO.al i hi; omega)
  refine ⟨wh, ?_, w2, w3⟩
  unfold event_places.f
  rw [if_pos (by omega), if_pos (by omega)]
  exact w1
theorem all_of (l0 : List S67) (hp : ∀ e ∈ l0, e.f3.f3.length ≤ 1048576) (hE : event_Check.f l0 = some 0) : l0.length ≤ 100000 ∧ chkGo l0 l0.length 0 (List.replicate 64 false) (List.replicate 64 z33) = 0 ∧ ∃ (r : List S38) (own : Nat → Int),
    event_Calls.f l0 = some (r, 0) ∧ Ev (fun k => larchref05_Calls.f k l0) (r.map conv, 0) ∧ Ev (fun k => larchref05_calls.f k l0) (r.map conv) ∧ r.length ≤ l0.length ∧ Own r l0.length own ∧ ∀ g : Int → Bool, resp l0 (fun i => g (own i)) l0.length 0 (fun _ => g 0) := by
  obtain ⟨c, hc, hR, h0⟩ := check_both l0
  rw [hE] at hc
  cases hc
  obtain ⟨hl, hchk⟩ := h0 rfl
  obtain ⟨r, ha, hb, hk⟩ := calls_both l0 hl hp l0.length 0 (List.replicate 64 false) (List.replicate 64 z33) (List.replicate 64 0) [] (by omega) (by simp) (by simp) (by simp) hchk (fun i _ _ hi => by
    rw [rdOf_rep] at hi
    cases hi) (by simp) (by simp)
  obtain ⟨own, -, hO, hG, -⟩ := own_go l0 l0.length 0 (List.replicate 64 false) (List.replicate 64 z33) (List.replicate 64 0) [] r (fun _ => 0) (by simp) (by simp) hchk (fun t _ _ ht => by
    rw [rdOf_rep] at ht
    cases ht) ⟨fun q q0 q1 => by simp at q1; omega, fun q q0 q1 => by simp at q1; omega, fun i hi => by omega, fun q q0 q1 => by simp at q1; omega⟩ ha
  rw [Nat.zero_add] at hO
  have hcl : Ev (fun k => larchref05_calls.f k l0) (r.map conv) := hb.congr fun k => by
    unfold larchref05_calls.f
    rw [if_pos (by decide)]
    rfl
  refine ⟨hl, hchk, r, own, ?_, ?_, hcl, hk.len, hO, fun g => hG g _ fun t t0 t1 => ?_⟩
  · unfold event_Calls.f event_calls.f
    rw [hE]
    simp only [Option.bind_some, if_true]
    rw [ha]
    rfl
  · unfold larchref05_Calls.f
    refine Ev.bind hR ?_
    simp only [if_true]
    exact Ev.bind hcl (Ev.const _)
  · unfold rd
    rw [List.getD_eq_getElem?_getD, List.getElem?_replicate]
    split <;> rfl
theorem bad_of (l0 : List S67) (c : Int) (hE : event_Check.f l0 = some c) (h0 : c ≠ 0) : event_Calls.f l0 = some ([], c) ∧ Ev (fun k => larchref05_Calls.f k l0) ([], c) := by
  obtain ⟨c', hc, hR, -⟩ := check_both l0
  rw [hE] at hc
  cases hc
  refine ⟨?_, ?_⟩
  · unfold event_Calls.f
    rw [hE]
    simp only [Option.bind_some, if_neg h0]
  · unfold larchref05_Calls.f
    refine Ev.bind hR ?_
    simp only [if_neg h0]
    exact Ev.const _
theorem mem_rd (wh : List Int) (x : Int) (h : x ∈ wh) : ∃ i : Nat, i < wh.length ∧ rd wh (i : Int) = x := by
  obtain ⟨i, hi, rfl⟩ := List.mem_iff_getElem.1 h
  refine ⟨i, hi, ?_⟩
  unfold rd
  rw [Int.toNat_natCast, List.getD_eq_getElem?_getD, List.getElem?_eq_getElem hi]
  rfl
end Go.Proofs.Ytagdkmcgepidoaa.P
/- P6 -/
namespace Go.Proofs.Ytagdkmcgepidoaa.P
open Go.RowKit Go.Proofs.YtagdkmcgepidoaaW.PrintWords Go.Proofs.YtagdkmcgepidoaaW.PrintLast Go.Proofs.YtagdkmcgepidoaaW.PrintMore
theorem ofInt64 (a : Nat) (h : a < 4611686018427387904) : (BitVec.ofInt 64 (a : Int)).toNat = a := by
  rw [BitVec.ofInt_natCast, BitVec.toNat_ofNat]
  exact Nat.mod_eq_of_lt (by omega)
theorem wrap64_small (a : Nat) (h : a < 4611686018427387904) : IntKind.i64.wrap (a : Int) = (a : Int) := by
  rw [i64_w]
  unfold wrap64
  omega
theorem or64 (a b : Nat) (ha : a < 4611686018427387904) (hb : b < 4611686018427387904) : Go.bits .or .i64 (a : Int) (b : Int) = ((a ||| b : Nat) : Int) := by
  have hx : a ||| b < 2 ^ 62 := Nat.or_lt_two_pow (by omega) (by omega)
  show IntKind.i64.wrap ((BitVec.ofInt 64 (a : Int) ||| BitVec.ofInt 64 (b : Int)).toNat : Int) = _
  rw [BitVec.toNat_or, ofInt64 a ha, ofInt64 b hb]
  exact wrap64_small _ (by omega)
theorem and64 (a b : Nat) (ha : a < 4611686018427387904) (hb : b < 4611686018427387904) : Go.bits .and .i64 (a : Int) (b : Int) = ((a &&& b : Nat) : Int) := by
  have hx : a &&& b < 2 ^ 62 := Nat.and_lt_two_pow _ (by omega)
  show IntKind.i64.wrap ((BitVec.ofInt 64 (a : Int) &&& BitVec.ofInt 64 (b : Int)).toNat : Int) = _
  rw [BitVec.toNat_and, ofInt64 a ha, ofInt64 b hb]
  exact wrap64_small _ (by omega)
theorem andNot64 (a b : Nat) (ha : a < 4611686018427387904) (hb : b < 4611686018427387904) : (Go.bits .andNot .i64 (a : Int) (b : Int) = 0) ↔ ∀ j, a.testBit j = true → b.testBit j = true := by
  have e : Go.bits .andNot .i64 (a : Int) (b : Int) = IntKind.i64.wrap ((BitVec.ofInt 64 (a : Int) &&& ~~~(BitVec.ofInt 64 (b : Int))).toNat : Int) := rfl
  have hle : (BitVec.ofInt 64 (a : Int) &&& ~~~(BitVec.ofInt 64 (b : Int))).toNat < 2 ^ 62 := by
    rw [BitVec.toNat_and, ofInt64 a ha]
    exact Nat.lt_of_le_of_lt Nat.and_le_left (by omega)
  rw [e, wrap64_small _ (by omega)]
  have tb : ∀ j, (BitVec.ofInt 64 (a : Int) &&& ~~~(BitVec.ofInt 64 (b : Int))).toNat.testBit j = (a.testBit j && (decide (j < 64) && !b.testBit j)) := by
    intro j
    rw [BitVec.toNat_and, Nat.testBit_and, ofInt64 a ha, BitVec.testBit_toNat, BitVec.getLsbD_not, ← BitVec.testBit_toNat, ofInt64 b hb]
  constructor
  · intro h j hj
    have h0 : (BitVec.ofInt 64 (a : Int) &&& ~~~(BitVec.ofInt 64 (b : Int))).toNat = 0 := by omega
    have := tb j
    rw [h0, Nat.zero_testBit, hj] at this
    have hj64 : j < 64 := by
      refine Decidable.byContradiction fun hh => ?_
      have : a < 2 ^ j := Nat.lt_of_lt_of_le (show a < 2 ^ 64 by omega) (Nat.pow_le_pow_right (by decide) (by omega))
      rw [Nat.testBit_lt_two_pow this] at hj
      cases hj
    simpa [hj64] using this
  · intro h
    have h0 : (BitVec.ofInt 64 (a : Int) &&& ~~~(BitVec.ofInt 64 (b : Int))).toNat = 0 := by
      apply Nat.eq_of_testBit_eq
      intro j
      rw [tb, Nat.zero_testBit]
      cases ha' : a.testBit j with
      | false => rfl
      | true => rw [h j ha']; simp
    rw [h0]
    rfl
theorem bit_val (s i : Nat) (hs : s < 65536) : Go.bits .and .i64 ((s : Int) / 2 ^ i) 1 = if s.testBit i = true then 1 else 0 := by
  have e : ((s : Int) / 2 ^ i) = ((s / 2 ^ i : Nat) : Int) := by simp
  have hl : s / 2 ^ i ≤ s := Nat.div_le_self _ _
  rw [e, show (1 : Int) = ((1 : Nat) : Int) from rfl, and64 _ _ (by omega) (by omega), Nat.and_one_is_mod, Nat.testBit_eq_decide_div_mod_eq]
  by_cases h : s / 2 ^ i % 2 = 1
  · rw [decide_eq_true h, if_pos rfl, h]
  · rw [decide_eq_false h, if_neg (by decide)]
    omega
theorem pow16 (n : Nat) (h : n ≤ 16) : 2 ^ n ≤ 65536 := Nat.pow_le_pow_right (n := 2) (by decide) h
theorem wrap_pow (i : Nat) (h : i ≤ 16) : wrap64 ((2 : Int) ^ i) = ((2 ^ i : Nat) : Int) := by
  have := pow16 i h
  rw [show (2 : Int) ^ i = ((2 ^ i : Nat) : Int) by simp, ← i64_w]
  exact wrap64_small _ (by omega)
theorem rd38_mem' (r : List S38) (i : Int) (hi : 0 ≤ i ∧ i < r.length) : J38 r i ∈ r := by
  unfold J38
  rw [List.getD_eq_getElem?_getD, List.getElem?_eq_getElem (by omega)]
  exact List.getElem_mem _
section
variable (r : List S38) (o : List Int)
def Tidy (m : Nat) : Prop := ∀ i k : Nat, i < k → k < m → aheadB (J38 r (rd o (k : Int))) (J38 r (rd o (i : Int))) = false
theorem mx_lt (a b v : Int) : v < mx a b ↔ v < a ∨ v < b := by
  unfold mx
  split <;> omega
theorem fit_e2 (hl : o.length ≤ 1048576) (hin : ∀ j : Nat, j < o.length → 0 ≤ rd o (j : Int) ∧ rd o (j : Int) < r.length) : ∀ d (j : Nat) (last : Int), j + d = o.length → (∀ v : Int, 0 ≤ v → (v < last ↔ ∃ i : Nat, i < j ∧ v < (J38 r (rd o (i : Int))).f3)) → Tidy r o j →
    ∃ b : Bool, Ev (fun k => event_Fits.l2 k r last o (o.length : Int) (j : Int)) (b, 0) ∧ (b = true ↔ Tidy r o o.length)
  | 0, j, last, hd, _, hT => by
    refine ⟨true, Ev.succ ((Ev.const _).congr fun k => ?_), ?_⟩
    · simp only [event_Fits.l2]
      rw [if_neg (by omega)]
    · have : j = o.length := by omega
      rw [← this]
      exact ⟨fun _ => hT, fun _ => rfl⟩
  | d + 1, j, last, hd, hL, hT => by
    obtain ⟨h0, h1⟩ := hin j (by omega)
    obtain ⟨x, hx⟩ : ∃ x, x = J38 r (rd o (j : Int)) := ⟨_, rfl⟩
    have step : ∀ k, event_Fits.l2 (k + 1) r last o (o.length : Int) (j : Int) = (if x.f4 ≥ 0 then (if x.f4 < last then some (false, 0) else event_Fits.l2 k r (mx last x.f3) o (o.length : Int) (((j + 1 : Nat)) : Int)) else event_Fits.l2 k r (mx last x.f3) o (o.length : Int) (((j + 1 : Nat)) : Int)) := by
      intro k
      simp only [event_Fits.l2, ← hx]
      rw [if_pos (by omega), if_pos (by omega), if_pos (by omega), if_pos h0, if_pos h1, wrap_succ (by omega)]
    have hL' : ∀ v : Int, 0 ≤ v → (v < mx last x.f3 ↔ ∃ i : Nat, i < j + 1 ∧ v < (J38 r (rd o (i : Int))).f3) := by
      intro v hv
      rw [mx_lt, hL v hv]
      constructor
      · rintro (⟨i, a, b⟩ | h)
        · exact ⟨i, by omega, b⟩
        · exact ⟨j, by omega, by rw [← hx]; exact h⟩
      · rintro ⟨i, a, b⟩
        by_cases e : i = j
        · right; rw [hx, ← e]; exact b
        · exact .inl ⟨i, by omega, b⟩
    by_cases hb : x.f4 ≥ 0 ∧ x.f4 < last
    · refine ⟨false, Ev.succ ((Ev.const _).congr fun k => ?_), ?_⟩
      · rw [step, if_pos hb.1, if_pos hb.2]
      · refine ⟨fun h => (by cases h), fun h => ?_⟩
        obtain ⟨i, a, b⟩ := (hL x.f4 hb.1).1 hb.2
        have := h i j a (by omega)
        rw [← hx] at this
        unfold aheadB at this
        rw [decide_eq_true hb.1, decide_eq_true b] at this
        cases this
    · have hT' : Tidy r o (j + 1) := by
        intro i k hik hk
        by_cases e : k = j
        · subst e
          rw [← hx]
          unfold aheadB
          by_cases e0 : (0 : Int) ≤ x.f4
          · rw [decide_eq_true e0, Bool.true_and]
            refine decide_eq_false fun hh => hb ⟨e0, (hL x.f4 e0).2 ⟨i, hik, hh⟩⟩
          · rw [decide_eq_false e0, Bool.false_and]
        · exact hT i k hik (by omega)
      obtain ⟨b, h2, h3⟩ := fit_e2 hl hin d (j + 1) (mx last x.f3) (by omega) hL' hT'
      refine ⟨b, Ev.succ (h2.congr fun k => ?_), h3⟩
      rw [step]
      by_cases e0 : x.f4 ≥ 0
      · rw [if_pos e0, if_neg (fun hh => hb ⟨e0, hh⟩)]
      · rw [if_neg e0]
end
end Go.Proofs.Ytagdkmcgepidoaa.P
/- P7 -/
namespace Go.Proofs.Ytagdkmcgepidoaa.P
open Go.RowKit Go.Proofs.YtagdkmcgepidoaaW.PrintWords Go.Proofs.YtagdkmcgepidoaaW.PrintLast Go.Proofs.YtagdkmcgepidoaaW.PrintMore
section
variable (xs : List S38)
def mask (i : Nat) : Nat → Nat → Nat → Nat
  | 0, _, acc => acc
  | d + 1, j, acc => mask i d (j + 1) (if aheadB (J38 xs (j : Int)) (J38 xs (i : Int)) = true then acc ||| 2 ^ j else acc)
theorem mask_bit (i : Nat) : ∀ d j acc t, (mask xs i d j acc).testBit t = (acc.testBit t || (decide (j ≤ t ∧ t < j + d) && aheadB (J38 xs (t : Int)) (J38 xs (i : Int))))
  | 0, j, acc, t => by
    unfold mask
    rw [decide_eq_false (by omega)]
    simp
  | d + 1, j, acc, t => by
    unfold mask
    rw [mask_bit i d (j + 1)]
    by_cases h : aheadB (J38 xs (j : Int)) (J38 xs (i : Int)) = true
    · rw [if_pos h, Nat.testBit_or, Nat.testBit_two_pow]
      by_cases e : j = t
      · subst e
        rw [decide_eq_true rfl, h, decide_eq_true (show j ≤ j ∧ j < j + (d + 1) by omega)]
        simp
      · rw [decide_eq_false e, Bool.or_false]
        congr 2
        exact decide_eq_decide.mpr (by omega)
    · rw [if_neg h]
      by_cases e : j = t
      · subst e
        have : aheadB (J38 xs (j : Int)) (J38 xs (j : Int)) = aheadB (J38 xs (j : Int)) (J38 xs (j : Int)) := rfl
        have h' : aheadB (J38 xs (j : Int)) (J38 xs (i : Int)) = false := by simpa using h
        rw [h', Bool.and_false, Bool.and_false]
      · congr 2
        exact decide_eq_decide.mpr (by omega)
theorem mask_lt (i : Nat) : ∀ d j acc, j + d ≤ 16 → acc < 65536 → mask xs i d j acc < 65536
  | 0, _, _, _, h => h
  | d + 1, j, acc, hj, h => by
    unfold mask
    refine mask_lt i d (j + 1) _ (by omega) ?_
    split
    · have : 2 ^ j < 2 ^ 16 := Nat.pow_lt_pow_right (by decide) (by omega)
      exact Nat.or_lt_two_pow (n := 16) (by omega) (by omega)
    · exact h
theorem bfJ_val (i : Nat) : ∀ d j (bf : List Int) (acc : Nat), j + d ≤ 16 → acc < 65536 → i < bf.length → rd bf (i : Int) = (acc : Int) → rd (bfJ xs i d j bf) (i : Int) = (mask xs i d j acc : Int) ∧ (bfJ xs i d j bf).length = bf.length ∧ ∀ q : Nat, q ≠ i → rd (bfJ xs i d j bf) (q : Int) = rd bf (q : Int)
  | 0, j, bf, acc, _, _, _, h => ⟨h, rfl, fun _ _ => rfl⟩
  | d + 1, j, bf, acc, hj, ha, hi, h => by
    have hp : 2 ^ j < 2 ^ 16 := Nat.pow_lt_pow_right (by decide) (by omega)
    unfold bfJ mask
    by_cases hh : aheadB (J38 xs (j : Int)) (J38 xs (i : Int)) = true
    · rw [if_pos hh, if_pos hh, h, wrap_pow j (by omega), or64 _ _ (by omega) (by omega)]
      have hs := rd_set bf (i : Int)
      simp only [Int.toNat_natCast] at hs
      obtain ⟨a, b, c⟩ := bfJ_val i d (j + 1) (bf.set i ((acc ||| 2 ^ j : Nat) : Int)) (acc ||| 2 ^ j) (by omega) (Nat.or_lt_two_pow (n := 16) (by omega) (by omega)) (by simpa using hi) (by rw [hs _ _ (by omega) (by omega), if_pos rfl])
      refine ⟨a, by simpa using b, fun q hq => ?_⟩
      rw [c q hq, hs _ _ (by omega) (by omega), if_neg (by omega)]
    · rw [if_neg hh, if_neg hh]
      exact bfJ_val i d (j + 1) bf acc (by omega) ha hi h
theorem bfI_val : ∀ d i (bf : List Int), i + d = xs.length → xs.length ≤ 16 → bf.length = xs.length → (∀ q : Nat, q < xs.length → rd bf (q : Int) = if q < i then (mask xs q xs.length 0 0 : Int) else 0) → ∀ q : Nat, q < xs.length → rd (bfI xs d i bf) (q : Int) = (mask xs q xs.length 0 0 : Int)
  | 0, i, bf, hd, _, _, h => fun q hq => by
    unfold bfI
    rw [h q hq, if_pos (by omega)]
  | d + 1, i, bf, hd, h16, hl, h => by
    unfold bfI
    obtain ⟨a, b, c⟩ := bfJ_val xs i xs.length 0 bf 0 (by omega) (by omega) (by omega) (by rw [h i (by omega), if_neg (by omega)]; rfl)
    refine bfI_val d (i + 1) _ (by omega) h16 (by rw [b, hl]) fun q hq => ?_
    by_cases e : q = i
    · rw [e, if_pos (by omega)]
      exact a
    · rw [c q e, h q hq]
      by_cases e2 : q < i
      · rw [if_pos e2, if_pos (by omega)]
      · rw [if_neg e2, if_neg (by omega)]
def alK (s i : Nat) : Nat → Nat → Bool
  | 0, _ => true
  | d + 1, k => (k == i || (s.testBit k || !aheadB (J38 xs (k : Int)) (J38 xs (i : Int)))) && alK s i d (k + 1)
theorem alK_succ (s i d k : Nat) : alK xs s i (d + 1) k = ((k == i || (s.testBit k || !aheadB (J38 xs (k : Int)) (J38 xs (i : Int)))) && alK xs s i d (k + 1)) := rfl
def okS (s i : Nat) : Bool := !s.testBit i && alK xs s i xs.length 0
def dpJ (s : Nat) : Nat → Nat → List Int → List Int
  | 0, _, ws => ws
  | d + 1, i, ws => dpJ s d (i + 1) (if okS xs s i = true then ws.set (s ||| 2 ^ i) (wrap64 (rd ws ((s ||| 2 ^ i : Nat) : Int) + rd ws (s : Int))) else ws)
def dpS : Nat → Nat → List Int → List Int
  | 0, _, ws => ws
  | d + 1, s, ws => dpS d (s + 1) (if rd ws (s : Int) = 0 then ws else dpJ xs s xs.length 0 ws)
theorem dpJ_len (s : Nat) : ∀ d i ws, (dpJ xs s d i ws).length = ws.length
  | 0, _, _ => rfl
  | d + 1, i, ws => by
    unfold dpJ
    rw [dpJ_len s d]
    split <;> simp
theorem alK_iff (s i : Nat) : ∀ d k, alK xs s i d k = true ↔ ∀ t, k ≤ t → t < k + d → t = i ∨ s.testBit t = true ∨ aheadB (J38 xs (t : Int)) (J38 xs (i : Int)) = false
  | 0, k => ⟨fun _ t a b => by omega, fun _ => rfl⟩
  | d + 1, k => by
    unfold alK
    rw [Bool.and_eq_true, alK_iff s i d (k + 1)]
    constructor
    · rintro ⟨h1, h2⟩ t a b
      by_cases e : t = k
      · subst e
        simp only [Bool.or_eq_true, beq_iff_eq, Bool.not_eq_true'] at h1
        exact h1
      · exact h2 t (by omega) (by omega)
    · intro h
      refine ⟨?_, fun t a b => h t (by omega) (by omega)⟩
      simp only [Bool.or_eq_true, beq_iff_eq, Bool.not_eq_true']
      exact h k (Nat.le_refl _) (by omega)
theorem wyOk_val (h16 : xs.length ≤ 16) (hself : ∀ i : Nat, i < xs.length → aheadB (J38 xs (i : Int)) (J38 xs (i : Int)) = false) (bf : List Int) (hbf : ∀ q : Nat, q < xs.length → rd bf (q : Int) = (mask xs q xs.length 0 0 : Int)) (s i : Nat) (hs : s < 2 ^ xs.length) (hi : i < xs.length) : wyOk bf s i = okS xs s i := by
  have hs' : s < 65536 := Nat.lt_of_lt_of_le hs (pow16 _ h16)
  have hm := mask_lt xs i xs.length 0 0 (by omega) (by omega)
  unfold wyOk okS
  rw [bit_val s i hs', hbf i hi]
  by_cases hb : s.testBit i = true
  · rw [if_pos hb, hb]
    rfl
  · have hb' : s.testBit i = false := by simpa using hb
    rw [if_neg hb, hb', decide_eq_true rfl, Bool.true_and, Bool.not_false, Bool.true_and]
    apply Bool.eq_iff_iff.mpr
    rw [beq_iff_eq, andNot64 _ _ (by omega) (by omega), alK_iff]
    constructor
    · intro h t _ ht
      by_cases e : aheadB (J38 xs (t : Int)) (J38 xs (i : Int)) = true
      · refine .inr (.inl (h t ?_))
        rw [mask_bit, e, decide_eq_true (by omega)]
        simp
      · exact .inr (.inr (by simpa using e))
    · intro h t ht
      rw [mask_bit, Nat.zero_testBit, Bool.false_or, Bool.and_eq_true] at ht
      have hlt := of_decide_eq_true ht.1
      rcases h t (by omega) (by omega) with e | e | e
      · rw [e, hself i hi] at ht
        cases ht.2
      · exact e
      · rw [e] at ht
        cases ht.2
theorem or_lt (s i : Nat) (hs : s < 2 ^ xs.length) (hi : i < xs.length) : s ||| 2 ^ i < 2 ^ xs.length := Nat.or_lt_two_pow hs (Nat.pow_lt_pow_right (by decide) hi)
theorem wyT_val (h16 : xs.length ≤ 16) (s i : Nat) (hs : s < 2 ^ xs.length) (hi : i < xs.length) : wyT s i = ((s ||| 2 ^ i : Nat) : Int) := by
  have := pow16 xs.length h16
  have := pow16 i (by omega)
  unfold wyT
  rw [wrap_pow i (by omega), or64 _ _ (by omega) (by omega)]
theorem wyJ_val (h16 : xs.length ≤ 16) (hself : ∀ i : Nat, i < xs.length → aheadB (J38 xs (i : Int)) (J38 xs (i : Int)) = false) (bf : List Int) (hbf : ∀ q : Nat, q < xs.length → rd bf (q : Int) = (mask xs q xs.length 0 0 : Int)) (s : Nat) (hs : s < 2 ^ xs.length) : ∀ d i (ws : List Int), i + d = xs.length → ws.length = 2 ^ xs.length → wyJ bf s d i ws = some (dpJ xs s d i ws)
  | 0, _, _, _, _ => rfl
  | d + 1, i, ws, hd, hl => by
    have hlt := or_lt xs s i hs (by omega)
    unfold wyJ dpJ
    rw [wyOk_val xs h16 hself bf hbf s i hs (by omega), wyT_val xs h16 s i hs (by omega)]
    by_cases ho : okS xs s i = true
    · rw [if_pos ho, if_pos ho, if_pos (by omega), Int.toNat_natCast]
      exact wyJ_val h16 hself bf hbf s hs d (i + 1) _ (by omega) (by simpa using hl)
    · rw [if_neg ho, if_neg ho]
      exact wyJ_val h16 hself bf hbf s hs d (i + 1) _ (by omega) hl
theorem wyS_val (h16 : xs.length ≤ 16) (hself : ∀ i : Nat, i < xs.length → aheadB (J38 xs (i : Int)) (J38 xs (i : Int)) = false) (bf : List Int) (hbf : ∀ q : Nat, q < xs.length → rd bf (q : Int) = (mask xs q xs.length 0 0 : Int)) : ∀ d s (ws : List Int), s + d = 2 ^ xs.length → ws.length = 2 ^ xs.length → wyS xs.length bf d s ws = some (dpS xs d s ws)
  | 0, _, _, _, _ => rfl
  | d + 1, s, ws, hd, hl => by
    unfold wyS dpS
    by_cases hz : rd ws (s : Int) = 0
    · rw [if_pos hz, if_pos hz]
      exact wyS_val h16 hself bf hbf d (s + 1) ws (by omega) hl
    · rw [if_neg hz, if_neg hz, wyJ_val xs h16 hself bf hbf s (by omega) xs.length 0 ws (by omega) hl]
      exact wyS_val h16 hself bf hbf d (s + 1) _ (by omega) (by rw [dpJ_len, hl])
end
end Go.Proofs.Ytagdkmcgepidoaa.P
/- P8 -/
namespace Go.Proofs.Ytagdkmcgepidoaa.P
open Go.RowKit Go.Proofs.YtagdkmcgepidoaaW.PrintWords Go.Proofs.YtagdkmcgepidoaaW.PrintLast Go.Proofs.YtagdkmcgepidoaaW.PrintMore
structure Seq (l0 : List S67) (out : List S38) (j : Nat) : Prop where
  bd : ∀ q : Int, 0 ≤ q → q < out.length → (0 ≤ (J38 out q).f3 ∧ (J38 out q).f3 < j) ∧ ((J38 out q).f4 = -1 ∨ (0 ≤ (J38 out q).f4 ∧ (J38 out q).f4 < j))
  mo : ∀ q q' : Int, 0 ≤ q → q < q' → q' < out.length → (J38 out q).f3 < (J38 out q').f3
  th : ∀ q q' : Int, 0 ≤ q → q < q' → q' < out.length → (J38 out q).f0 = (J38 out q').f0 → 0 ≤ (J38 out q).f4 ∧ (J38 out q).f4 < (J38 out q').f3
  e1 : ∀ i : Nat, i < j → (J67 l0 (i : Int)).f1 = true → ∃ q : Int, (0 ≤ q ∧ q < out.length) ∧ (J38 out q).f4 = i
  e0 : ∀ i : Nat, i < j → (J67 l0 (i : Int)).f1 = false → ∃ q : Int, (0 ≤ q ∧ q < out.length) ∧ (J38 out q).f3 = i
theorem seq_go (l0 : List S67) : ∀ d (j : Nat) (op : List Bool) (ops : List S33) (last : List Int) (out r : List S38), op.length = 64 → last.length = 64 → chkGo l0 d j op ops = 0 →
    (∀ t : Int, 0 ≤ t → t < 64 → rdOf false op t = true → (0 ≤ rd last t ∧ rd last t < out.length) ∧ (J38 out (rd last t)).f0 = t ∧ (J38 out (rd last t)).f4 = -1) →
    (∀ q : Int, 0 ≤ q → q < out.length → (J38 out q).f4 = -1 → (0 ≤ (J38 out q).f0 ∧ (J38 out q).f0 < 64) ∧ rdOf false op (J38 out q).f0 = true ∧ rd last (J38 out q).f0 = q) →
    Seq l0 out j → callsGo l0 d j last out = some r → Seq l0 r (j + d)
  | 0, j, op, ops, last, out, r, _, _, _, _, _, hS, hr => by
    simp only [callsGo, Option.some.injEq] at hr
    subst hr
    exact hS
  | d + 1, j, op, ops, last, out, r, h1, h2, hc, hop, hcl, hS, hr => by
    obtain ⟨hf, hf1, -, hc'⟩ := chk_step hc
    obtain ⟨e, he⟩ : ∃ e, e = J67 l0 (j : Int) := ⟨_, rfl⟩
    simp only [callsGo, ← he] at hr
    rw [← he] at hf hf1 hc'
    rw [if_pos hf] at hr
    rw [show j + (d + 1) = j + 1 + d by omega]
    by_cases hb : e.f1 = true
    · obtain ⟨hq, hq0, hq4⟩ := hop e.f0 hf.1 hf.2 (by rw [← hf1]; exact hb)
      obtain ⟨q, hqe⟩ : ∃ q, q = rd last e.f0 := ⟨_, rfl⟩
      rw [if_pos hb] at hr
      rw [← hqe] at hq hq0 hq4 hr
      split at hr
      rotate_left
      · cases hr
      rename_i hg
      obtain ⟨v, hv⟩ : ∃ v : S38, v = ⟨(J38 out q).f0, (J38 out q).f1, e.f3, (J38 out q).f3, (j : Int)⟩ := ⟨_, rfl⟩
      rw [← hv] at hr
      have hv0 : v.f0 = (J38 out q).f0 := by rw [hv]
      have hv3 : v.f3 = (J38 out q).f3 := by rw [hv]
      have hv4 : v.f4 = (j : Int) := by rw [hv]
      clear hv hg
      have rs : ∀ i : Int, 0 ≤ i → J38 (out.set q.toNat v) i = if i = q then v else J38 out i := fun i hi => rd38_set out q i v hq hi
      have r0 : ∀ i : Int, 0 ≤ i → (J38 (out.set q.toNat v) i).f0 = (J38 out i).f0 := fun i hi => by
        rw [rs i hi]
        by_cases e1 : i = q
        · rw [if_pos e1, hv0, e1]
        · rw [if_neg e1]
      have r3 : ∀ i : Int, 0 ≤ i → (J38 (out.set q.toNat v) i).f3 = (J38 out i).f3 := fun i hi => by
        rw [rs i hi]
        by_cases e1 : i = q
        · rw [if_pos e1, hv3, e1]
        · rw [if_neg e1]
      have r4 : ∀ i : Int, 0 ≤ i → (J38 (out.set q.toNat v) i).f4 = if i = q then (j : Int) else (J38 out i).f4 := fun i hi => by
        rw [rs i hi]
        by_cases e1 : i = q
        · rw [if_pos e1, if_pos e1, hv4]
        · rw [if_neg e1, if_neg e1]
      refine seq_go l0 d (j + 1) _ _ last _ r (by simpa using h1) h2 hc' (fun t t0 t1 ht => ?_) (fun i i0 i1 hi => ?_) ⟨fun i i0 i1 => ?_, fun i i' i0 i1 i2 => ?_, fun i i' i0 i1 i2 h => ?_, fun i hi hh => ?_, fun i hi hh => ?_⟩ hr
      · rw [rdOf_set _ _ _ _ (by omega) t0] at ht
        by_cases e1 : t = e.f0
        · rw [if_pos e1, hb] at ht; simp at ht
        · rw [if_neg e1] at ht
          obtain ⟨a, b, c⟩ := hop t t0 t1 ht
          rw [List.length_set, rs _ a.1]
          have : rd last t ≠ q := fun hh => e1 (by rw [hh] at b; omega)
          rw [if_neg this]
          exact ⟨a, b, c⟩
      · rw [List.length_set] at i1
        rw [r4 i i0] at hi
        by_cases e1 : i = q
        · rw [if_pos e1] at hi; omega
        · rw [if_neg e1] at hi
          obtain ⟨a, b, c⟩ := hcl i i0 i1 hi
          rw [r0 i i0]
          have ne : (J38 out i).f0 ≠ e.f0 := fun hh => e1 (by rw [hh, ← hqe] at c; exact c.symm)
          refine ⟨a, ?_, c⟩
          rw [rdOf_set _ _ _ _ (by omega) a.1, if_neg ne]
          exact b
      · rw [List.length_set] at i1
        obtain ⟨a, b⟩ := hS.bd i i0 i1
        rw [r3 i i0, r4 i i0]
        refine ⟨by omega, ?_⟩
        split
        · right; omega
        · omega
      · rw [List.length_set] at i2
        rw [r3 i i0, r3 i' (by omega)]
        exact hS.mo i i' i0 i1 i2
      · rw [List.length_set] at i2
        rw [r0 i i0, r0 i' (by omega)] at h
        have := hS.th i i' i0 i1 i2 h
        rw [r4 i i0, r3 i' (by omega)]
        by_cases e1 : i = q
        · rw [e1] at this; omega
        · rw [if_neg e1]
          exact this
      · by_cases e2 : i = j
        · exact ⟨q, by rw [List.length_set]; exact hq, by rw [r4 q hq.1, if_pos rfl, e2]⟩
        · obtain ⟨p, a, b⟩ := hS.e1 i (by omega) hh
          refine ⟨p, by rw [List.length_set]; exact a, ?_⟩
          rw [r4 p a.1, if_neg (fun hp => by rw [hp, hq4] at b; omega)]
          exact b
      · by_cases e2 : i = j
        · rw [e2, ← he, hb] at hh
          cases hh
        · obtain ⟨p, a, b⟩ := hS.e0 i (by omega) hh
          exact ⟨p, by rw [List.length_set]; exact a, by rw [r3 p a.1]; exact b⟩
    · have hb' : e.f1 = false := by simpa using hb
      rw [if_neg hb] at hr
      split at hr
      rotate_left
      · cases hr
      obtain ⟨v, hv⟩ : ∃ v : S38, v = ⟨e.f0, e.f2, z36, (j : Int), -1⟩ := ⟨_, rfl⟩
      rw [← hv] at hr
      have hv0 : v.f0 = e.f0 := by rw [hv]
      have hv3 : v.f3 = (j : Int) := by rw [hv]
      have hv4 : v.f4 = -1 := by rw [hv]
      clear hv
      have rs : ∀ i : Int, 0 ≤ i ∧ i ≤ out.length → J38 (out ++ [v]) i = if i = out.length then v else J38 out i := fun i hi => rd38_app out v i hi
      have rn : J38 (out ++ [v]) (out.length : Int) = v := by rw [rs _ (by omega), if_pos rfl]
      have ro : ∀ i : Int, 0 ≤ i → i < out.length → J38 (out ++ [v]) i = J38 out i := fun i a b => by rw [rs i (by omega), if_neg (by omega)]
      have hL : ((out ++ [v]).length : Int) = out.length + 1 := by simp
      refine seq_go l0 d (j + 1) _ _ (last.set e.f0.toNat (out.length : Int)) _ r (by simpa using h1) (by simpa using h2) hc' (fun t t0 t1 ht => ?_) (fun i i0 i1 hi => ?_) ⟨fun i i0 i1 => ?_, fun i i' i0 i1 i2 => ?_, fun i i' i0 i1 i2 h => ?_, fun i hi hh => ?_, fun i hi hh => ?_⟩ hr
      · rw [rdOf_set _ _ _ _ (by omega) t0] at ht
        rw [rd_set _ _ _ _ (by omega) t0, hL]
        by_cases e1 : t = e.f0
        · rw [if_pos e1, rn, hv0, hv4]
          exact ⟨by omega, e1.symm, rfl⟩
        · rw [if_neg e1] at ht
          obtain ⟨a, b, c⟩ := hop t t0 t1 ht
          rw [if_neg e1, ro _ a.1 a.2]
          exact ⟨by omega, b, c⟩
      · rw [hL] at i1
        by_cases e1 : i = out.length
        · rw [e1, rn, hv0, rdOf_set _ _ _ _ (by omega) hf.1, if_pos rfl, rd_set _ _ _ _ (by omega) hf.1, if_pos rfl, hb']
          exact ⟨hf, rfl, rfl⟩
        · rw [ro i i0 (by omega)] at hi ⊢
          obtain ⟨a, b, c⟩ := hcl i i0 (by omega) hi
          have ne : (J38 out i).f0 ≠ e.f0 := fun hh => by rw [hh, ← hf1, hb'] at b; cases b
          rw [rdOf_set _ _ _ _ (by omega) a.1, if_neg ne, rd_set _ _ _ _ (by omega) a.1, if_neg ne]
          exact ⟨a, b, c⟩
      · rw [hL] at i1
        by_cases e1 : i = out.length
        · rw [e1, rn, hv3, hv4]
          exact ⟨by omega, .inl rfl⟩
        · rw [ro i i0 (by omega)]
          have := hS.bd i i0 (by omega)
          omega
      · rw [hL] at i2
        by_cases e1 : i' = out.length
        · rw [e1, rn, hv3, ro i i0 (by omega)]
          exact (hS.bd i i0 (by omega)).1.2
        · rw [ro i' (by omega) (by omega), ro i i0 (by omega)]
          exact hS.mo i i' i0 i1 (by omega)
      · rw [hL] at i2
        by_cases e1 : i' = out.length
        · rw [e1, rn, hv0, ro i i0 (by omega)] at h
          rw [e1, rn, hv3, ro i i0 (by omega)]
          rcases (hS.bd i i0 (by omega)).2 with h4 | h4
          · obtain ⟨_, b, _⟩ := hcl i i0 (by omega) h4
            rw [h, ← hf1, hb'] at b
            cases b
          · exact h4
        · rw [ro i' (by omega) (by omega), ro i i0 (by omega)] at h ⊢
          exact hS.th i i' i0 i1 (by omega) h
      · by_cases e2 : i = j
        · rw [e2, ← he, hb'] at hh
          cases hh
        · obtain ⟨p, a, b⟩ := hS.e1 i (by omega) hh
          exact ⟨p, by rw [hL]; omega, by rw [ro p a.1 a.2]; exact b⟩
      · by_cases e2 : i = j
        · exact ⟨(out.length : Int), by rw [hL]; omega, by rw [rn, hv3, e2]⟩
        · obtain ⟨p, a, b⟩ := hS.e0 i (by omega) hh
          exact ⟨p, by rw [hL]; omega, by rw [ro p a.1 a.2]; exact b⟩
theorem seq_of (l0 : List S67) (r : List S38) (hE : event_Check.f l0 = some 0) (hl : l0.length ≤ 100000) (hA : event_Calls.f l0 = some (r, 0)) : Seq l0 r l0.length := by
  have hchk : chkGo l0 l0.length 0 (List.replicate 64 false) (List.replicate 64 z33) = 0 := by
    unfold event_Check.f at hE
    rw [if_neg (by omega)] at hE
    exact Option.some.inj hE
  have hcg : callsGo l0 l0.length 0 (List.replicate 64 0) [] = some r := by
    unfold event_Calls.f event_calls.f at hA
    rw [hE] at hA
    simp only [Option.bind_some, if_true] at hA
    obtain ⟨t, h1, h2⟩ := Option.bind_eq_some_iff.mp hA
    cases h2
    exact h1
  have := seq_go l0 l0.length 0 (List.replicate 64 false) (List.replicate 64 z33) (List.replicate 64 0) [] r (by simp) (by simp) hchk (fun t _ _ ht => by
    rw [rdOf_rep] at ht
    cases ht) (fun q q0 q1 => by simp at q1; omega) ⟨fun q q0 q1 => by simp at q1; omega, fun q q' q0 q1 q2 => by simp at q2; omega, fun q q' q0 q1 q2 => by simp at q2; omega, fun i hi => by omega, fun i hi => by omega⟩ hcg
  rwa [Nat.zero_add] at this
def Line (r : List S38) : Prop := ∀ i k : Int, 0 ≤ i → i < k → k < r.length → aheadB (J38 r i) (J38 r k) = true
theorem mx_le (a b c : Int) : mx a b ≤ c ↔ a ≤ c ∧ b ≤ c := by
  unfold mx
  split <;> omega
theorem aheadB_iff (a b : S38) : aheadB a b = true ↔ 0 ≤ a.f4 ∧ a.f4 < b.f3 := by
  unfold aheadB
  rw [Bool.and_eq_true, decide_eq_true_eq, decide_eq_true_eq]
def Back (r : List S38) (q : Int) (j : Nat) : Prop := 0 ≤ (J38 r q).f4 ∧ (J38 r q).f4 < j
theorem wrap_dn {n : Int} (h0 : -1000000 ≤ n) (h1 : n ≤ 1000000) : wrap64 (n - 1) = n - 1 := by unfold wrap64; omega
theorem wrap_up {n : Int} (h0 : -1000000 ≤ n) (h1 : n ≤ 1000000) : wrap64 (n + 1) = n + 1 := by unfold wrap64; omega
theorem width_bad (l0 : List S67) (hl : l0.length ≤ 100000) : ∀ d (j : Nat) (now most : Int), j + d = l0.length → -(j : Int) ≤ now ∧ now ≤ j → 2 ≤ most → ∃ v : Int, 2 ≤ v ∧ Ev (fun k => event_Width.l0 k now most l0 (l0.length : Int) (j : Int)) (v, 0)
  | 0, j, now, most, hd, hn, hm => ⟨most, hm, Ev.succ ((Ev.const _).congr fun k => by simp only [event_Width.l0]; rw [if_neg (by omega)])⟩
  | d + 1, j, now, most, hd, hn, hm => by
    have hw1 : wrap64 (now - 1) = now - 1 := by unfold wrap64; omega
    have hw2 : wrap64 (now + 1) = now + 1 := by unfold wrap64; omega
    by_cases hb : (J67 l0 (j : Int)).f1 = true
    · obtain ⟨v, h1, h2⟩ := width_bad l0 hl d (j + 1) (now - 1) (mx most (now - 1)) (by omega) (by omega) (by unfold mx; split <;> omega)
      refine ⟨v, h1, Ev.succ (h2.congr fun k => ?_)⟩
      simp only [event_Width.l0]
      rw [if_pos (by omega), if_pos (by omega), if_pos (by omega), if_pos hb, hw1, wrap_succ (by omega)]
    · obtain ⟨v, h1, h2⟩ := width_bad l0 hl d (j + 1) (now + 1) (mx most (now + 1)) (by omega) (by omega) (by unfold mx; split <;> omega)
      refine ⟨v, h1, Ev.succ (h2.congr fun k => ?_)⟩
      simp only [event_Width.l0]
      rw [if_pos (by omega), if_pos (by omega), if_pos (by omega), if_neg hb, hw2, wrap_succ (by omega)]
theorem width_go (l0 : List S67) (hl : l0.length ≤ 100000) (r : List S38) (own : Nat → Int) (hO : Own r l0.length own) (hS : Seq l0 r l0.length) : ∀ d (j : Nat) (now most : Int), j + d = l0.length → (now = 0 ∨ now = 1) → most ≤ 1 →
    (now = 0 → ∀ q : Int, 0 ≤ q → q < r.length → (J38 r q).f3 < j → Back r q j) →
    (now = 1 → ∃ p : Int, (0 ≤ p ∧ p < r.length) ∧ (J38 r p).f3 < j ∧ ¬ Back r p j ∧ ∀ q : Int, 0 ≤ q → q < r.length → q ≠ p → (J38 r q).f3 < j → Back r q j) →
    (∀ i k : Int, 0 ≤ i → i < k → k < r.length → (J38 r k).f3 < j → aheadB (J38 r i) (J38 r k) = true) →
    ∃ v : Int, (v ≤ 1 ↔ Line r) ∧ Ev (fun k => event_Width.l0 k now most l0 (l0.length : Int) (j : Int)) (v, 0)
  | 0, j, now, most, hd, hn, hm, _, _, hA => by
    refine ⟨most, ⟨fun _ => fun i k i0 ik k1 => hA i k i0 ik k1 ?_, fun _ => hm⟩, Ev.succ ((Ev.const _).congr fun k => by simp only [event_Width.l0]; rw [if_neg (by omega)])⟩
    have := (hS.bd k (by omega) k1).1
    omega
  | d + 1, j, now, most, hd, hn, hm, h0, h1, hA => by
    have hw1 : wrap64 (now - 1) = now - 1 := wrap_dn (by rcases hn with h | h <;> rw [h] <;> decide) (by rcases hn with h | h <;> rw [h] <;> decide)
    have hw2 : wrap64 (now + 1) = now + 1 := wrap_up (by rcases hn with h | h <;> rw [h] <;> decide) (by rcases hn with h | h <;> rw [h] <;> decide)
    by_cases hb : (J67 l0 (j : Int)).f1 = true
    · obtain ⟨p, hp, hp4⟩ := hS.e1 j (by omega) hb
      have hpl := (hS.bd p hp.1 hp.2).1
      have hlt := hO.lt p hp.1 hp.2
      have hown : own j = p := by
        rcases hO.tw p hp.1 hp.2 with h | ⟨_, h⟩
        · omega
        · rw [hp4, Int.toNat_natCast] at h
          exact h
      have hnb : ¬ Back r p j := fun h => by unfold Back at h; omega
      have hn1 : now = 1 := by
        rcases hn with h | h
        · exact absurd (h0 h p hp.1 hp.2 (by omega)) hnb
        · exact h
      obtain ⟨p', hp', h3, h4, h5⟩ := h1 hn1
      have epp : p = p' := Decidable.byContradiction fun hh => hnb (h5 p hp.1 hp.2 hh (by omega))
      subst epp
      have nof3 : ∀ q : Int, 0 ≤ q → q < r.length → (J38 r q).f3 ≠ j := fun q a b h => by
        have := (hO.fr q a b).2
        rw [h, Int.toNat_natCast, hown] at this
        rw [← this] at h
        omega
      obtain ⟨v, hv, hE⟩ := width_go l0 hl r own hO hS d (j + 1) (now - 1) (mx most (now - 1)) (by omega) (by omega) ((mx_le _ _ _).2 ⟨hm, by omega⟩) (fun _ q a b c => by
        have c' : (J38 r q).f3 < j := by have := nof3 q a b; omega
        by_cases e : q = p
        · rw [e]; unfold Back; omega
        · have := h5 q a b e c'
          unfold Back at this ⊢
          omega) (fun h => by omega) (fun i k i0 ik k1 hk => hA i k i0 ik k1 (by have := nof3 k (by omega) k1; omega))
      refine ⟨v, hv, Ev.succ (hE.congr fun k => ?_)⟩
      simp only [event_Width.l0]
      rw [if_pos (by omega), if_pos (by omega), if_pos (by omega), if_pos hb, hw1, wrap_succ (by omega)]
    · have hb' : (J67 l0 (j : Int)).f1 = false := by simpa using hb
      obtain ⟨p, hp, hp3⟩ := hS.e0 j (by omega) hb'
      have hlt := hO.lt p hp.1 hp.2
      have hown : own j = p := by
        have h := (hO.fr p hp.1 hp.2).2
        rw [hp3, Int.toNat_natCast] at h
        exact h
      have nof4 : ∀ q : Int, 0 ≤ q → q < r.length → (J38 r q).f4 ≠ j := fun q a b h => by
        rcases hO.tw q a b with h' | ⟨_, h'⟩
        · omega
        · rw [h, Int.toNat_natCast, hown] at h'
          rw [← h'] at h
          omega
      rcases hn with hn0 | hn1
      · obtain ⟨v, hv, hE⟩ := width_go l0 hl r own hO hS d (j + 1) (now + 1) (mx most (now + 1)) (by omega) (by omega) ((mx_le _ _ _).2 ⟨hm, by omega⟩) (fun h => by omega) (fun _ => ⟨p, hp, by omega, fun h => by unfold Back at h; omega, fun q a b e c => by
          have c' : (J38 r q).f3 < j := by
            refine Decidable.byContradiction fun hh => e ?_
            have h3 : (J38 r q).f3 = j := by omega
            have := (hO.fr q a b).2
            rw [h3, Int.toNat_natCast, hown] at this
            exact this.symm
          have := h0 hn0 q a b c'
          unfold Back at this ⊢
          omega⟩) (fun i k i0 ik k1 hk => by
          by_cases h3 : (J38 r k).f3 < j
          · exact hA i k i0 ik k1 h3
          · have hmo := hS.mo i k i0 ik k1
            have := h0 hn0 i i0 (by omega) (by omega)
            unfold Back at this
            rw [aheadB_iff]
            omega)
        refine ⟨v, hv, Ev.succ (hE.congr fun k => ?_)⟩
        simp only [event_Width.l0]
        rw [if_pos (by omega), if_pos (by omega), if_pos (by omega), if_neg hb, hw2, wrap_succ (by omega)]
      · obtain ⟨p', hp', h3, h4, h5⟩ := h1 hn1
        have hj1 := (hS.bd p' hp'.1 hp'.2).1
        obtain ⟨v, hv, hE⟩ := width_bad l0 hl d (j + 1) (now + 1) (mx most (now + 1)) (by omega) (by omega) (by unfold mx; split <;> omega)
        refine ⟨v, ⟨fun h => by omega, fun h => ?_⟩, Ev.succ (hE.congr fun k => ?_)⟩
        · have hpp : p' < p := by
            rcases Int.lt_trichotomy p' p with h | h | h
            · exact h
            · rw [h] at h3; omega
            · have := hS.mo p p' hp.1 h hp'.2
              omega
          have := (aheadB_iff _ _).1 (h p' p hp'.1 hpp hp.2)
          refine absurd ?_ h4
          clear h1 h0 hA h5 h4
          unfold Back
          omega
        · simp only [event_Width.l0]
          rw [if_pos (by omega), if_pos (by omega), if_pos (by omega), if_neg hb, hw2, wrap_succ (by omega)]
theorem row_val (l0 : List S67) (hl : l0.length ≤ 100000) (hE : event_Check.f l0 = some 0) (r : List S38) (own : Nat → Int) (hO : Own r l0.length own) (hS : Seq l0 r l0.length) : ∃ b : Bool, Ev (fun k => event_Row.f k l0) (b, 0) ∧ (b = true ↔ Line r) := by
  obtain ⟨v, hv, h⟩ := width_go l0 hl r own hO hS l0.length 0 0 0 (by omega) (.inl rfl) (by decide) (fun _ q a b c => by have := (hS.bd q a b).1; omega) (fun h => by cases h) (fun i k a b c e => by have := (hS.bd k (by omega) c).1; omega)
  refine ⟨decide (v ≤ 1), ?_, by rw [decide_eq_true_eq]; exact hv⟩
  unfold event_Row.f event_Width.f
  rw [hE]
  simp only [Option.bind_some, if_true]
  refine Ev.bind (x := (v, 0)) h ?_
  simp only [if_true]
  exact Ev.const _
theorem ahead_val (l0 : List S67) (r : List S38) (hA : event_Calls.f l0 = some (r, 0)) (a b : Int) (ha : 0 ≤ a ∧ a < r.length) (hb : 0 ≤ b ∧ b < r.length) : event_Ahead.f l0 a b = some (aheadB (J38 r a) (J38 r b), 0) := by
  unfold event_Ahead.f event_ahead.f aheadB
  rw [hA]
  simp only [Option.bind_some, if_true]
  rw [if_neg (by omega), if_neg (by omega), if_neg (by omega), if_neg (by omega), if_pos ha.1, if_pos ha.2, if_pos hb.1, if_pos hb.2]
  by_cases h4 : (J38 r a).f4 ≥ 0
  · rw [if_pos h4, decide_eq_true (show 0 ≤ (J38 r a).f4 from h4), Bool.true_and]
    rfl
  · rw [if_neg h4, decide_eq_false (show ¬ 0 ≤ (J38 r a).f4 from h4), Bool.false_and]
    rfl
theorem mn_val (n m : Nat) : mn (n : Int) (m : Int) = ((min n m : Nat) : Int) := by
  unfold mn
  split <;> omega
end Go.Proofs.Ytagdkmcgepidoaa.P
/- P10 -/
namespace Go.Proofs.Ytagdkmcgepidoaa.P
open Go.RowKit Go.Proofs.YtagdkmcgepidoaaW.PrintWords Go.Proofs.YtagdkmcgepidoaaW.PrintLast Go.Proofs.YtagdkmcgepidoaaW.PrintMore
def sm (g : Nat → Nat) : Nat → Nat
  | 0 => 0
  | d + 1 => sm g d + g d
theorem sm_congr (g g' : Nat → Nat) : ∀ n, (∀ i, i < n → g i = g' i) → sm g n = sm g' n
  | 0, _ => rfl
  | n + 1, h => by unfold sm; rw [sm_congr g g' n (fun i hi => h i (by omega)), h n (by omega)]
theorem sm_one (g g' : Nat → Nat) (a x : Nat) : ∀ n, a < n → (∀ i, i < n → i ≠ a → g' i = g i) → g' a = g a + x → sm g' n = sm g n + x
  | 0, h, _, _ => by omega
  | n + 1, h, h1, h2 => by
    unfold sm
    by_cases e : a = n
    · subst e
      rw [sm_congr g' g a (fun i hi => h1 i (by omega) (by omega)), h2]
      omega
    · rw [sm_one g g' a x n (by omega) (fun i hi => h1 i (by omega)) h2, h1 n (by omega) (fun hh => e hh.symm)]
      omega
theorem sm_le (g : Nat → Nat) (b : Nat) : ∀ n, (∀ i, i < n → g i ≤ b) → sm g n ≤ n * b
  | 0, _ => by simp [sm]
  | n + 1, h => by
    unfold sm
    have := sm_le g b n (fun i hi => h i (by omega))
    have := h n (by omega)
    rw [Nat.succ_mul]
    omega
theorem sm_mono (g g' : Nat → Nat) : ∀ n, (∀ i, i < n → g i ≤ g' i) → sm g n ≤ sm g' n
  | 0, _ => Nat.le_refl _
  | n + 1, h => by
    unfold sm
    have := sm_mono g g' n (fun i hi => h i (by omega))
    have := h n (by omega)
    omega
theorem sm_ge (g : Nat → Nat) (a : Nat) : ∀ n, a < n → g a ≤ sm g n
  | 0, h => by omega
  | n + 1, h => by
    unfold sm
    by_cases e : a = n
    · rw [e]; omega
    · have := sm_ge g a n (by omega)
      omega
theorem sm_ge2 (g : Nat → Nat) (a b : Nat) (hab : a < b) : ∀ n, b < n → g a + g b ≤ sm g n
  | 0, h => by omega
  | n + 1, h => by
    unfold sm
    by_cases e : b = n
    · have := sm_ge g a n (by omega)
      rw [e]
      omega
    · have := sm_ge2 g a b hab n (by omega)
      omega
theorem sm_zero (g : Nat → Nat) : ∀ n, (∀ i, i < n → g i = 0) → sm g n = 0
  | 0, _ => rfl
  | n + 1, h => by unfold sm; rw [sm_zero g n (fun i hi => h i (by omega)), h n (by omega)]
theorem sm_only (g : Nat → Nat) (a n : Nat) (ha : a < n) (h : ∀ i, i < n → i ≠ a → g i = 0) : sm g n = g a := by
  have := sm_one (fun _ => 0) g a (g a) n ha (fun i hi hne => by rw [h i hi hne]) (by simp)
  rw [this, sm_zero _ n (fun _ _ => rfl), Nat.zero_add]
theorem xor_bit (t i j : Nat) : (t ^^^ 2 ^ i).testBit j = (t.testBit j != decide (i = j)) := by
  rw [Nat.testBit_xor, Nat.testBit_two_pow]
theorem or_xor (s i : Nat) (h : s.testBit i = false) : (s ||| 2 ^ i) ^^^ 2 ^ i = s := by
  apply Nat.eq_of_testBit_eq
  intro j
  rw [xor_bit, Nat.testBit_or, Nat.testBit_two_pow]
  by_cases e : i = j
  · subst e
    rw [h, decide_eq_true rfl]; rfl
  · rw [decide_eq_false e]
    cases s.testBit j <;> rfl
theorem xor_or (t i : Nat) (h : t.testBit i = true) : (t ^^^ 2 ^ i) ||| 2 ^ i = t := by
  apply Nat.eq_of_testBit_eq
  intro j
  rw [Nat.testBit_or, xor_bit, Nat.testBit_two_pow]
  by_cases e : i = j
  · subst e
    rw [h, decide_eq_true rfl]; rfl
  · rw [decide_eq_false e]
    cases t.testBit j <;> rfl
theorem xor_lt (t i : Nat) (h : t.testBit i = true) : t ^^^ 2 ^ i < t := by
  have h1 : t ^^^ 2 ^ i ≤ (t ^^^ 2 ^ i) ||| 2 ^ i := Nat.left_le_or
  rw [xor_or t i h] at h1
  refine Nat.lt_of_le_of_ne h1 fun hh => ?_
  have := xor_bit t i i
  rw [hh, h, decide_eq_true rfl] at this
  cases this
theorem or_bit (s i : Nat) : (s ||| 2 ^ i).testBit i = true := by
  rw [Nat.testBit_or, Nat.testBit_two_pow, decide_eq_true rfl, Bool.or_true]
section
variable (xs : List S38)
def fF : Nat → Nat → Nat
  | 0, _ => 0
  | k + 1, t => if t = 0 then 1 else sm (fun i => if (t.testBit i && okS xs (t ^^^ 2 ^ i) i) = true then fF k (t ^^^ 2 ^ i) else 0) xs.length
theorem fF_stable : ∀ (k k' t : Nat), t < k → t < k' → fF xs k t = fF xs k' t
  | 0, _, _, h, _ => by omega
  | k + 1, 0, _, _, h => by omega
  | k + 1, k' + 1, t, h, h' => by
    unfold fF
    by_cases e : t = 0
    · rw [if_pos e, if_pos e]
    · rw [if_neg e, if_neg e]
      refine sm_congr _ _ _ fun i hi => ?_
      by_cases hb : (t.testBit i && okS xs (t ^^^ 2 ^ i) i) = true
      · rw [if_pos hb, if_pos hb]
        have := xor_lt t i (by rw [Bool.and_eq_true] at hb; exact hb.1)
        exact fF_stable k k' _ (by omega) (by omega)
      · rw [if_neg hb, if_neg hb]
def F (t : Nat) : Nat := fF xs (t + 1) t
def term (t i : Nat) : Nat := if (t.testBit i && okS xs (t ^^^ 2 ^ i) i) = true then F xs (t ^^^ 2 ^ i) else 0
theorem F_eq (t : Nat) : F xs t = if t = 0 then 1 else sm (term xs t) xs.length := by
  unfold F
  rw [fF]
  by_cases e : t = 0
  · rw [if_pos e, if_pos e]
  · rw [if_neg e, if_neg e]
    refine sm_congr _ _ _ fun i hi => ?_
    unfold term
    by_cases hb : (t.testBit i && okS xs (t ^^^ 2 ^ i) i) = true
    · rw [if_pos hb, if_pos hb]
      have := xor_lt t i (by rw [Bool.and_eq_true] at hb; exact hb.1)
      exact fF_stable xs _ _ _ (by omega) (by omega)
    · rw [if_neg hb, if_neg hb]
def pc (t : Nat) : Nat := sm (fun i => if t.testBit i = true then 1 else 0) xs.length
theorem pc_xor (t i : Nat) (hi : i < xs.length) (h : t.testBit i = true) : pc xs t = pc xs (t ^^^ 2 ^ i) + 1 := by
  refine sm_one _ _ i 1 xs.length hi (fun j hj hne => ?_) ?_
  · simp only [xor_bit, decide_eq_false (fun hh : i = j => hne hh.symm)]
    cases t.testBit j <;> rfl
  · simp only [xor_bit, h, decide_eq_true rfl]
    rfl
theorem F_le : ∀ (m t : Nat), t < m → F xs t ≤ xs.length ^ pc xs t
  | 0, _, h => by omega
  | m + 1, t, h => by
    rw [F_eq]
    by_cases e : t = 0
    · rw [if_pos e]
      have : pc xs t = 0 := sm_zero _ _ fun i _ => by rw [e, Nat.zero_testBit]; rfl
      rw [this]
      exact Nat.le_refl 1
    · rw [if_neg e]
      by_cases hp : pc xs t = 0
      · have : sm (term xs t) xs.length = 0 := sm_zero _ _ fun i hi => by
          unfold term
          by_cases hb : t.testBit i = true
          · have := pc_xor xs t i hi hb
            omega
          · rw [if_neg (by simp [hb])]
        rw [this]
        exact Nat.zero_le _
      · obtain ⟨q, hq⟩ : ∃ q, pc xs t = q + 1 := ⟨pc xs t - 1, by omega⟩
        rw [hq, Nat.pow_succ, Nat.mul_comm]
        refine sm_le _ _ _ fun i hi => ?_
        unfold term
        by_cases hb : (t.testBit i && okS xs (t ^^^ 2 ^ i) i) = true
        · rw [if_pos hb]
          rw [Bool.and_eq_true] at hb
          have h1 := pc_xor xs t i hi hb.1
          have h2 := xor_lt t i hb.1
          have := F_le m (t ^^^ 2 ^ i) (by omega)
          rw [show pc xs (t ^^^ 2 ^ i) = q by omega] at this
          exact this
        · rw [if_neg hb]
          exact Nat.zero_le _
theorem F_small (h12 : xs.length ≤ 12) (t : Nat) : F xs t ≤ 8916100448256 := by
  refine Nat.le_trans (F_le xs (t + 1) t (by omega)) ?_
  have hp : pc xs t ≤ 12 := by
    have := sm_le (fun i => if t.testBit i = true then 1 else 0) 1 xs.length (fun i _ => by split <;> omega)
    unfold pc
    omega
  have h1 : xs.length ^ pc xs t ≤ 12 ^ pc xs t := Nat.pow_le_pow_left h12 _
  have h2 : 12 ^ pc xs t ≤ 12 ^ 12 := Nat.pow_le_pow_right (by decide) hp
  omega
def hT (s i0 t i : Nat) : Nat := if (t.testBit i && (decide (t ^^^ 2 ^ i < s ∨ (t ^^^ 2 ^ i = s ∧ i < i0)) && okS xs (t ^^^ 2 ^ i) i)) = true then F xs (t ^^^ 2 ^ i) else 0
def hV (s i0 t : Nat) : Nat := (if t = 0 then 1 else 0) + sm (hT xs s i0 t) xs.length
theorem hV_old (s i0 t : Nat) (h : t ≤ s) : hV xs s i0 t = F xs t := by
  unfold hV
  rw [F_eq]
  by_cases e : t = 0
  · rw [if_pos e, if_pos e, sm_zero _ _ fun i _ => by unfold hT; rw [e, Nat.zero_testBit]; rfl]
  · rw [if_neg e, if_neg e, Nat.zero_add]
    refine sm_congr _ _ _ fun i _ => ?_
    unfold hT term
    by_cases hb : t.testBit i = true
    · have := xor_lt t i hb
      rw [decide_eq_true (.inl (by omega)), Bool.true_and]
    · have : t.testBit i = false := by simpa using hb
      rw [this, Bool.false_and, Bool.false_and]
theorem hV_le (s i0 t : Nat) : hV xs s i0 t ≤ F xs t := by
  unfold hV
  rw [F_eq]
  by_cases e : t = 0
  · rw [if_pos e, if_pos e, sm_zero _ _ fun i _ => by unfold hT; rw [e, Nat.zero_testBit]; rfl]
    exact Nat.le_refl _
  · rw [if_neg e, if_neg e, Nat.zero_add]
    refine sm_mono _ _ _ fun i _ => ?_
    unfold hT term
    by_cases hb : (t.testBit i && okS xs (t ^^^ 2 ^ i) i) = true
    · rw [if_pos hb]
      split
      · exact Nat.le_refl _
      · exact Nat.zero_le _
    · rw [if_neg hb, if_neg]
      · exact Nat.le_refl _
      · intro hh
        simp only [Bool.and_eq_true] at hh hb
        exact hb ⟨hh.1, hh.2.2⟩
theorem hV_next (s t : Nat) : hV xs s xs.length t = hV xs (s + 1) 0 t := by
  unfold hV
  congr 1
  refine sm_congr _ _ _ fun i hi => ?_
  unfold hT
  rw [show decide (t ^^^ 2 ^ i < s ∨ t ^^^ 2 ^ i = s ∧ i < xs.length) = decide (t ^^^ 2 ^ i < s + 1 ∨ t ^^^ 2 ^ i = s + 1 ∧ i < 0) from decide_eq_decide.mpr (by omega)]
theorem hV_skip (s t : Nat) (hz : F xs s = 0) : hV xs s 0 t = hV xs (s + 1) 0 t := by
  unfold hV
  congr 1
  refine sm_congr _ _ _ fun i hi => ?_
  unfold hT
  by_cases e : t ^^^ 2 ^ i = s
  · rw [e, hz]
    split <;> split <;> rfl
  · rw [show decide (t ^^^ 2 ^ i < s ∨ t ^^^ 2 ^ i = s ∧ i < 0) = decide (t ^^^ 2 ^ i < s + 1 ∨ t ^^^ 2 ^ i = s + 1 ∧ i < 0) from decide_eq_decide.mpr (by omega)]
theorem hV_far (s i0 t : Nat) (h : ¬ (okS xs s i0 = true ∧ t = s ||| 2 ^ i0)) : hV xs s (i0 + 1) t = hV xs s i0 t := by
  unfold hV
  congr 1
  refine sm_congr _ _ _ fun i hi => ?_
  unfold hT
  by_cases e : i = i0 ∧ t ^^^ 2 ^ i = s
  · obtain ⟨rfl, e⟩ := e
    have hno : (t.testBit i && okS xs (t ^^^ 2 ^ i) i) = false := by
      refine Bool.eq_false_iff.mpr fun hh => h ?_
      rw [Bool.and_eq_true] at hh
      refine ⟨by rw [← e]; exact hh.2, ?_⟩
      rw [← e]
      exact (xor_or t i hh.1).symm
    have : ∀ x : Bool, ¬ ((t.testBit i && (x && okS xs (t ^^^ 2 ^ i) i)) = true) := fun x hx => by
      simp only [Bool.and_eq_true] at hx
      rw [hx.1, hx.2.2] at hno
      cases hno
    rw [if_neg (this _), if_neg (this _)]
  · rw [show decide (t ^^^ 2 ^ i < s ∨ t ^^^ 2 ^ i = s ∧ i < i0 + 1) = decide (t ^^^ 2 ^ i < s ∨ t ^^^ 2 ^ i = s ∧ i < i0) from decide_eq_decide.mpr (by omega)]
theorem hV_at (s i0 : Nat) (hi : i0 < xs.length) (h : okS xs s i0 = true) : hV xs s (i0 + 1) (s ||| 2 ^ i0) = hV xs s i0 (s ||| 2 ^ i0) + F xs s := by
  have hb : s.testBit i0 = false := by
    unfold okS at h
    rw [Bool.and_eq_true] at h
    simpa using h.1
  have hx := or_xor s i0 hb
  unfold hV
  rw [Nat.add_assoc]
  congr 1
  refine sm_one _ _ i0 (F xs s) xs.length hi (fun j hj hne => ?_) ?_
  · unfold hT
    rw [show decide ((s ||| 2 ^ i0) ^^^ 2 ^ j < s ∨ (s ||| 2 ^ i0) ^^^ 2 ^ j = s ∧ j < i0 + 1) = decide ((s ||| 2 ^ i0) ^^^ 2 ^ j < s ∨ (s ||| 2 ^ i0) ^^^ 2 ^ j = s ∧ j < i0) from decide_eq_decide.mpr (by omega)]
  · unfold hT
    rw [hx, or_bit, h, decide_eq_true (show s < s ∨ s = s ∧ i0 < i0 + 1 by omega), decide_eq_false (show ¬ (s < s ∨ s = s ∧ i0 < i0) by omega)]
    simp
def Tab (ws : List Int) (s i0 : Nat) : Prop := ws.length = 2 ^ xs.length ∧ ∀ t : Nat, t < 2 ^ xs.length → rd ws (t : Int) = (hV xs s i0 t : Int)
theorem dpJ_tab (h12 : xs.length ≤ 12) (s : Nat) (hs : s < 2 ^ xs.length) : ∀ d (i : Nat) (ws : List Int), i + d = xs.length → Tab xs ws s i → Tab xs (dpJ xs s d i ws) s xs.length
  | 0, i, ws, hd, h => by
    rw [show i = xs.length by omega] at h
    exact h
  | d + 1, i, ws, hd, ⟨hl, h⟩ => by
    unfold dpJ
    refine dpJ_tab h12 s hs d (i + 1) _ (by omega) ?_
    by_cases ho : okS xs s i = true
    · rw [if_pos ho]
      have hlt := or_lt xs s i hs (by omega)
      refine ⟨by simpa using hl, fun t ht => ?_⟩
      have hset := rd_set ws ((s ||| 2 ^ i : Nat) : Int) (t : Int)
      rw [Int.toNat_natCast] at hset
      rw [hset _ (by omega) (by omega)]
      by_cases e : t = s ||| 2 ^ i
      · rw [if_pos (by omega), e, h _ hlt, h s hs, hV_at xs s i (by omega) ho, hV_old xs s i s (Nat.le_refl _)]
        have h1 := hV_le xs s i (s ||| 2 ^ i)
        have h2 := F_small xs h12 (s ||| 2 ^ i)
        have h3 := F_small xs h12 s
        unfold wrap64
        omega
      · rw [if_neg (by omega), h t ht, hV_far xs s i t (fun hh => e hh.2)]
    · rw [if_neg ho]
      exact ⟨hl, fun t ht => by rw [h t ht, hV_far xs s i t (fun hh => ho hh.1)]⟩
theorem dpS_tab (h12 : xs.length ≤ 12) : ∀ d (s : Nat) (ws : List Int), s + d = 2 ^ xs.length → Tab xs ws s 0 → Tab xs (dpS xs d s ws) (2 ^ xs.length) 0
  | 0, s, ws, hd, h => by
    rw [show s = 2 ^ xs.length by omega] at h
    exact h
  | d + 1, s, ws, hd, h => by
    unfold dpS
    refine dpS_tab h12 d (s + 1) _ (by omega) ?_
    have hv := h.2 s (by omega)
    rw [hV_old xs s 0 s (Nat.le_refl _)] at hv
    by_cases hz : rd ws (s : Int) = 0
    · rw [if_pos hz]
      exact ⟨h.1, fun t ht => by rw [h.2 t ht, hV_skip xs s t (by omega)]⟩
    · rw [if_neg hz]
      obtain ⟨a, b⟩ := dpJ_tab xs h12 s (by omega) xs.length 0 ws (by omega) h
      exact ⟨a, fun t ht => by rw [b t ht, hV_next]⟩
theorem dp_count (h12 : xs.length ≤ 12) : rd (dpS xs (2 ^ xs.length) 0 ((List.replicate (2 ^ xs.length) 0).set 0 1)) ((2 ^ xs.length - 1 : Nat) : Int) = (F xs (2 ^ xs.length - 1) : Int) := by
  have h0 : 0 < 2 ^ xs.length := Nat.pow_pos (by decide)
  have := dpS_tab xs h12 (2 ^ xs.length) 0 ((List.replicate (2 ^ xs.length) 0).set 0 1) (by omega) ⟨by simp, fun t ht => by
    have hset := rd_set (List.replicate (2 ^ xs.length) 0) 0 (t : Int) 1
    rw [show (0 : Int).toNat = 0 from rfl] at hset
    rw [hset (by rw [List.length_replicate]; omega) (by omega)]
    have hr : rd (List.replicate (2 ^ xs.length) 0) (t : Int) = 0 := by
      unfold rd
      rw [List.getD_eq_getElem?_getD, List.getElem?_replicate]
      split <;> rfl
    have hz : sm (hT xs 0 0 t) xs.length = 0 := sm_zero _ _ fun i hi => by
      unfold hT
      rw [decide_eq_false (by omega), Bool.false_and, Bool.and_false]
      rfl
    unfold hV
    rw [hr, hz]
    by_cases e : t = 0
    · rw [if_pos (by omega), if_pos e]
      rfl
    · rw [if_neg (by omega), if_neg e]
      rfl⟩
  rw [this.2 _ (by omega), hV_old xs _ 0 _ (by omega)]
variable (hup : ∀ i k : Nat, i < k → k < xs.length → aheadB (J38 xs (k : Int)) (J38 xs (i : Int)) = false)
theorem pre_bit (k j : Nat) : (2 ^ k - 1).testBit j = decide (j < k) := Nat.testBit_two_pow_sub_one k j
theorem pre_xor (k : Nat) : (2 ^ (k + 1) - 1) ^^^ 2 ^ k = 2 ^ k - 1 := by
  apply Nat.eq_of_testBit_eq
  intro j
  rw [xor_bit, pre_bit, pre_bit]
  by_cases e : k = j
  · subst e
    rw [decide_eq_true rfl, decide_eq_true (by omega), decide_eq_false (by omega)]
    rfl
  · rw [decide_eq_false e]
    by_cases h : j < k
    · rw [decide_eq_true h, decide_eq_true (by omega)]; rfl
    · rw [decide_eq_false h, decide_eq_false (by omega)]; rfl
theorem okS_iff (s i : Nat) : okS xs s i = true ↔ s.testBit i = false ∧ ∀ t, t < xs.length → t = i ∨ s.testBit t = true ∨ aheadB (J38 xs (t : Int)) (J38 xs (i : Int)) = false := by
  unfold okS
  rw [Bool.and_eq_true, alK_iff]
  constructor
  · rintro ⟨h1, h2⟩
    exact ⟨by simpa using h1, fun t ht => h2 t (Nat.zero_le _) (by omega)⟩
  · rintro ⟨h1, h2⟩
    exact ⟨by simpa using h1, fun t _ ht => h2 t (by omega)⟩
theorem term_of (t i : Nat) (h1 : t.testBit i = true) (h2 : okS xs (t ^^^ 2 ^ i) i = true) : term xs t i = F xs (t ^^^ 2 ^ i) := by
  unfold term
  rw [h1, h2, Bool.and_self, if_pos rfl]
theorem pre_ok (hup : ∀ i k : Nat, i < k → k < xs.length → aheadB (J38 xs (k : Int)) (J38 xs (i : Int)) = false) (k : Nat) : okS xs (2 ^ k - 1) k = true := by
  rw [okS_iff, pre_bit]
  refine ⟨decide_eq_false (by omega), fun t ht => ?_⟩
  rcases Nat.lt_trichotomy t k with h | h | h
  · exact .inr (.inl (by rw [pre_bit]; exact decide_eq_true h))
  · exact .inl h
  · exact .inr (.inr (hup k t h ht))
theorem pre_term (hup : ∀ i k : Nat, i < k → k < xs.length → aheadB (J38 xs (k : Int)) (J38 xs (i : Int)) = false) (k : Nat) : term xs (2 ^ (k + 1) - 1) k = F xs (2 ^ k - 1) := by
  have h := term_of xs (2 ^ (k + 1) - 1) k (by rw [pre_bit]; exact decide_eq_true (by omega)) (by rw [pre_xor]; exact pre_ok xs hup k)
  rw [h, pre_xor]
theorem pre_ne (k : Nat) : 2 ^ (k + 1) - 1 ≠ 0 := by
  have : 2 ≤ 2 ^ (k + 1) := by rw [Nat.pow_succ]; have := Nat.pow_pos (n := k) (show 0 < 2 by decide); omega
  omega
theorem F_pre_mono (hup : ∀ i k : Nat, i < k → k < xs.length → aheadB (J38 xs (k : Int)) (J38 xs (i : Int)) = false) (k : Nat) (hk : k < xs.length) : F xs (2 ^ k - 1) ≤ F xs (2 ^ (k + 1) - 1) := by
  rw [F_eq xs (2 ^ (k + 1) - 1), if_neg (pre_ne k), ← pre_term xs hup k]
  exact sm_ge _ k _ hk
theorem F_zero : F xs 0 = 1 := by rw [F_eq, if_pos rfl]
theorem F_up (hup : ∀ i k : Nat, i < k → k < xs.length → aheadB (J38 xs (k : Int)) (J38 xs (i : Int)) = false) (a : Nat) : ∀ d, a + d ≤ xs.length → F xs (2 ^ a - 1) ≤ F xs (2 ^ (a + d) - 1)
  | 0, _ => Nat.le_refl _
  | d + 1, h => Nat.le_trans (F_up hup a d (by omega)) (F_pre_mono xs hup (a + d) (by omega))
theorem F_pos (hup : ∀ i k : Nat, i < k → k < xs.length → aheadB (J38 xs (k : Int)) (J38 xs (i : Int)) = false) (k : Nat) (hk : k ≤ xs.length) : 1 ≤ F xs (2 ^ k - 1) := by
  have := F_up xs hup 0 k (by omega)
  rw [show 2 ^ 0 - 1 = 0 from rfl, F_zero, Nat.zero_add] at this
  exact this
theorem F_two (hup : ∀ i k : Nat, i < k → k < xs.length → aheadB (J38 xs (k : Int)) (J38 xs (i : Int)) = false) (j : Nat) (hj : j + 1 < xs.length) (h : aheadB (J38 xs (j : Int)) (J38 xs ((j + 1 : Nat) : Int)) = false) : 2 ≤ F xs (2 ^ xs.length - 1) := by
  have big : 2 ≤ F xs (2 ^ (j + 2) - 1) := by
    obtain ⟨s, hs⟩ : ∃ s, s = (2 ^ (j + 2) - 1) ^^^ 2 ^ j := ⟨_, rfl⟩
    have sb : ∀ q, s.testBit q = decide (q < j ∨ q = j + 1) := by
      intro q
      rw [hs, xor_bit, pre_bit]
      by_cases e : j = q
      · subst e
        rw [decide_eq_true rfl, decide_eq_true (show j < j + 2 by omega), decide_eq_false (by omega)]
        rfl
      · rw [decide_eq_false e]
        by_cases e2 : q < j ∨ q = j + 1
        · rw [decide_eq_true e2, decide_eq_true (by omega)]; rfl
        · rw [decide_eq_false e2, decide_eq_false (by omega)]; rfl
    have sx : s ^^^ 2 ^ (j + 1) = 2 ^ j - 1 := by
      apply Nat.eq_of_testBit_eq
      intro q
      rw [xor_bit, sb, pre_bit]
      by_cases e : j + 1 = q
      · subst e
        rw [decide_eq_true rfl, decide_eq_true (by omega), decide_eq_false (by omega)]
        rfl
      · rw [decide_eq_false e]
        by_cases e2 : q < j
        · rw [decide_eq_true e2, decide_eq_true (.inl e2)]; rfl
        · rw [decide_eq_false e2, decide_eq_false (by omega)]; rfl
    have ok1 : okS xs (s ^^^ 2 ^ (j + 1)) (j + 1) = true := by
      rw [sx, okS_iff, pre_bit]
      refine ⟨decide_eq_false (by omega), fun t ht => ?_⟩
      by_cases e1 : t < j
      · exact .inr (.inl (by rw [pre_bit]; exact decide_eq_true e1))
      by_cases e2 : t = j
      · exact .inr (.inr (by rw [e2]; exact h))
      by_cases e3 : t = j + 1
      · exact .inl e3
      · exact .inr (.inr (hup (j + 1) t (by omega) ht))
    have ok2 : okS xs s j = true := by
      rw [okS_iff, sb]
      refine ⟨decide_eq_false (by omega), fun t ht => ?_⟩
      by_cases e1 : t < j ∨ t = j + 1
      · exact .inr (.inl (by rw [sb]; exact decide_eq_true e1))
      by_cases e2 : t = j
      · exact .inl e2
      · exact .inr (.inr (hup j t (by omega) ht))
    have hpj := F_pos xs hup j (by omega)
    have hFs : 1 ≤ F xs s := by
      have hne : s ≠ 0 := fun hh => by
        have := sb (j + 1)
        rw [hh, Nat.zero_testBit, decide_eq_true (.inr rfl)] at this
        cases this
      rw [F_eq, if_neg hne]
      refine Nat.le_trans hpj ?_
      have h1 := term_of xs s (j + 1) (by rw [sb]; exact decide_eq_true (.inr rfl)) ok1
      rw [sx] at h1
      rw [← h1]
      exact sm_ge _ (j + 1) _ hj
    rw [F_eq, if_neg (pre_ne (j + 1))]
    have h1 := term_of xs (2 ^ (j + 2) - 1) j (by rw [pre_bit]; exact decide_eq_true (by omega)) (by rw [← hs]; exact ok2)
    rw [← hs] at h1
    have h2 := pre_term xs hup (j + 1)
    have h3 := F_pos xs hup (j + 1) (by omega)
    have h4 := sm_ge2 (term xs (2 ^ (j + 2) - 1)) j (j + 1) (by omega) xs.length hj
    rw [h1] at h4
    have h2' : term xs (2 ^ (j + 2) - 1) (j + 1) = F xs (2 ^ (j + 1) - 1) := h2
    rw [h2'] at h4
    show 2 ≤ sm (term xs (2 ^ (j + 2) - 1)) xs.length
    omega
  have := F_up xs hup (j + 2) (xs.length - (j + 2)) (by omega)
  rw [show j + 2 + (xs.length - (j + 2)) = xs.length by omega] at this
  omega
theorem F_line (hall : ∀ i k : Nat, i < k → k < xs.length → aheadB (J38 xs (i : Int)) (J38 xs (k : Int)) = true) : ∀ (m t : Nat), t < m → t < 2 ^ xs.length → F xs t ≠ 0 → ∃ k, k ≤ xs.length ∧ t = 2 ^ k - 1
  | 0, _, h, _, _ => by omega
  | m + 1, t, h, ht, hF => by
    by_cases e : t = 0
    · exact ⟨0, Nat.zero_le _, e⟩
    · rw [F_eq, if_neg e] at hF
      have : ∃ i, i < xs.length ∧ term xs t i ≠ 0 := by
        refine Decidable.byContradiction fun hh => hF (sm_zero _ _ fun i hi => ?_)
        exact Decidable.byContradiction fun h2 => hh ⟨i, hi, h2⟩
      obtain ⟨i, hi, hti⟩ := this
      unfold term at hti
      by_cases hb : (t.testBit i && okS xs (t ^^^ 2 ^ i) i) = true
      · rw [if_pos hb] at hti
        rw [Bool.and_eq_true] at hb
        have hlt := xor_lt t i hb.1
        obtain ⟨k, hk, hk2⟩ := F_line hall m (t ^^^ 2 ^ i) (by omega) (by omega) hti
        have hok := (okS_iff xs _ _).1 hb.2
        rw [hk2] at hok
        have hik : i = k := by
          have h1 : ¬ i < k := fun hh => by
            have := hok.1
            rw [pre_bit, decide_eq_true hh] at this
            cases this
          have h2 : ¬ k < i := fun hh => by
            rcases hok.2 k (by omega) with h3 | h3 | h3
            · omega
            · rw [pre_bit, decide_eq_false (by omega)] at h3
              cases h3
            · rw [hall k i hh hi] at h3
              cases h3
          omega
        refine ⟨k + 1, by omega, ?_⟩
        have := xor_or t i hb.1
        rw [hk2, hik] at this
        rw [← this]
        apply Nat.eq_of_testBit_eq
        intro q
        rw [Nat.testBit_or, pre_bit, pre_bit, Nat.testBit_two_pow]
        by_cases e3 : k = q
        · subst e3
          rw [decide_eq_true rfl, decide_eq_true (show k < k + 1 by omega), Bool.or_true]
        · rw [decide_eq_false e3, Bool.or_false]
          exact decide_eq_decide.mpr (by omega)
      · rw [if_neg hb] at hti
        exact absurd rfl hti
theorem F_one (hup : ∀ i k : Nat, i < k → k < xs.length → aheadB (J38 xs (k : Int)) (J38 xs (i : Int)) = false) (hall : ∀ i k : Nat, i < k → k < xs.length → aheadB (J38 xs (i : Int)) (J38 xs (k : Int)) = true) : ∀ k, k ≤ xs.length → F xs (2 ^ k - 1) = 1
  | 0, _ => F_zero xs
  | k + 1, hk => by
    rw [F_eq, if_neg (pre_ne k), sm_only _ k _ (by omega) (fun i hi hne => ?_), pre_term xs hup k, F_one hup hall k (by omega)]
    unfold term
    by_cases hb : ((2 ^ (k + 1) - 1).testBit i && okS xs ((2 ^ (k + 1) - 1) ^^^ 2 ^ i) i) = true
    · rw [if_pos hb]
      rw [Bool.and_eq_true] at hb
      have hlt := xor_lt _ i hb.1
      have hM : 2 ^ (k + 1) ≤ 2 ^ xs.length := Nat.pow_le_pow_right (by decide) hk
      refine Decidable.byContradiction fun hF => ?_
      obtain ⟨m, hm, hm2⟩ := F_line xs hall _ _ (Nat.lt_succ_self _) (by omega) hF
      have h1 : i < k + 1 := by
        have := hb.1
        rw [pre_bit] at this
        exact of_decide_eq_true this
      have h2 : ((2 ^ (k + 1) - 1) ^^^ 2 ^ i).testBit k = true := by
        rw [xor_bit, pre_bit, decide_eq_false hne, decide_eq_true (by omega)]
        rfl
      have h3 : ((2 ^ (k + 1) - 1) ^^^ 2 ^ i).testBit i = false := by
        rw [xor_bit, pre_bit, decide_eq_true rfl, decide_eq_true h1]
        rfl
      rw [hm2, pre_bit] at h2 h3
      have := of_decide_eq_true h2
      have := of_decide_eq_false h3
      omega
    · rw [if_neg hb]
theorem count_one (hup : ∀ i k : Nat, i < k → k < xs.length → aheadB (J38 xs (k : Int)) (J38 xs (i : Int)) = false) (htr : ∀ i k m : Nat, i < xs.length → k < xs.length → m < xs.length → aheadB (J38 xs (i : Int)) (J38 xs (k : Int)) = true → aheadB (J38 xs (k : Int)) (J38 xs (m : Int)) = true → aheadB (J38 xs (i : Int)) (J38 xs (m : Int)) = true) :
    1 ≤ F xs (2 ^ xs.length - 1) ∧ (F xs (2 ^ xs.length - 1) = 1 ↔ ∀ i k : Nat, i < k → k < xs.length → aheadB (J38 xs (i : Int)) (J38 xs (k : Int)) = true) := by
  refine ⟨F_pos xs hup xs.length (Nat.le_refl _), fun h1 => ?_, fun hall => F_one xs hup hall xs.length (Nat.le_refl _)⟩
  have adj : ∀ j, j + 1 < xs.length → aheadB (J38 xs (j : Int)) (J38 xs ((j + 1 : Nat) : Int)) = true := by
    intro j hj
    cases h : aheadB (J38 xs (j : Int)) (J38 xs ((j + 1 : Nat) : Int)) with
    | true => rfl
    | false =>
      have := F_two xs hup j hj h
      omega
  intro i k hik hk
  have go : ∀ d, i + (d + 1) < xs.length → aheadB (J38 xs (i : Int)) (J38 xs ((i + (d + 1) : Nat) : Int)) = true := by
    intro d
    induction d with
    | zero => intro h; exact adj i h
    | succ d ih =>
      intro h
      exact htr i (i + (d + 1)) (i + (d + 1 + 1)) (by omega) (by omega) h (ih (by omega)) (adj (i + (d + 1)) h)
  have := go (k - i - 1) (by omega)
  rwa [show i + (k - i - 1 + 1) = k by omega] at this
end
end Go.Proofs.Ytagdkmcgepidoaa.P
/- P11 -/
namespace Go.Proofs.Ytagdkmcgepidoaa.P
open Go.RowKit Go.Proofs.YtagdkmcgepidoaaW.PrintWords Go.Proofs.YtagdkmcgepidoaaW.PrintLast Go.Proofs.YtagdkmcgepidoaaW.PrintMore
def rho (P : Nat → Bool) : Nat → Nat
  | 0 => 0
  | j + 1 => rho P j + (if P j = true then 1 else 0)
theorem rho_mono (P : Nat → Bool) (a : Nat) : ∀ d, rho P a ≤ rho P (a + d)
  | 0 => Nat.le_refl _
  | d + 1 => Nat.le_trans (rho_mono P a d) (by show rho P (a + d) ≤ rho P (a + d) + _; omega)
theorem rho_le (P : Nat → Bool) {a b : Nat} (h : a ≤ b) : rho P a ≤ rho P b := by
  have := rho_mono P a (b - a)
  rwa [show a + (b - a) = b by omega] at this
theorem rho_succ (P : Nat → Bool) (j : Nat) (h : P j = true) : rho P (j + 1) = rho P j + 1 := by
  show rho P j + _ = _
  rw [if_pos h]
theorem rho_skip (P : Nat → Bool) (j : Nat) (h : P j = false) : rho P (j + 1) = rho P j := by
  show rho P j + _ = _
  rw [if_neg (by rw [h]; decide)]
  rfl
theorem rho_lt (P : Nat → Bool) (i k : Nat) (h : P i = true) : rho P i < rho P k ↔ i < k := by
  constructor
  · intro h1
    refine Decidable.byContradiction fun h2 => ?_
    have := rho_le P (show k ≤ i by omega)
    omega
  · intro h1
    have := rho_le P (show i + 1 ≤ k by omega)
    rw [rho_succ P i h] at this
    omega
theorem flt_succ (l0 : List S67) (p : Nat → Bool) (d j : Nat) : flt l0 p (d + 1) j = if p j = true then J67 l0 (j : Int) :: flt l0 p d (j + 1) else flt l0 p d (j + 1) := rfl
theorem flt_len (l0 : List S67) (P : Nat → Bool) : ∀ d j, (flt l0 P d j).length + rho P j = rho P (j + d)
  | 0, j => by simp [flt]
  | d + 1, j => by
    have ih := flt_len l0 P d (j + 1)
    rw [show j + (d + 1) = j + 1 + d by omega, ← ih]
    rw [flt_succ]
    by_cases h : P j = true
    · rw [if_pos h, List.length_cons, rho_succ P j h]
      omega
    · rw [if_neg h, rho_skip P j (by simpa using h)]
theorem flt_get (l0 : List S67) (P : Nat → Bool) : ∀ d j i, j ≤ i → i < j + d → P i = true → (flt l0 P d j)[rho P i - rho P j]? = some (J67 l0 (i : Int))
  | 0, j, i, h1, h2, _ => by omega
  | d + 1, j, i, h1, h2, hp => by
    rw [flt_succ]
    by_cases e : i = j
    · subst e
      rw [if_pos hp, Nat.sub_self]
      rfl
    · have ih := flt_get l0 P d (j + 1) i (by omega) (by omega) hp
      by_cases h : P j = true
      · rw [if_pos h]
        have h3 := rho_succ P j h
        have h4 := rho_le P (show j + 1 ≤ i by omega)
        rw [show rho P i - rho P j = rho P i - rho P (j + 1) + 1 by omega, List.getElem?_cons_succ]
        exact ih
      · rw [if_neg h]
        rw [rho_skip P j (by simpa using h)] at ih
        exact ih
section
variable (G : Nat → Bool) (mu : S38 → S38)
def fG : List S38 → Nat → List S38
  | [], _ => []
  | x :: xs, q => if G q = true then mu x :: fG xs (q + 1) else fG xs (q + 1)
theorem fG_cons (x : S38) (xs : List S38) (q : Nat) : fG G mu (x :: xs) q = if G q = true then mu x :: fG G mu xs (q + 1) else fG G mu xs (q + 1) := rfl
theorem fG_len : ∀ out q, (fG G mu out q).length + rho G q = rho G (q + out.length)
  | [], q => by simp [fG]
  | x :: xs, q => by
    have ih := fG_len xs (q + 1)
    rw [List.length_cons, show q + (xs.length + 1) = q + 1 + xs.length by omega, ← ih]
    rw [fG_cons]
    by_cases h : G q = true
    · rw [if_pos h, List.length_cons, rho_succ G q h]
      omega
    · rw [if_neg h, rho_skip G q (by simpa using h)]
theorem fG_app (x : S38) : ∀ out q, fG G mu (out ++ [x]) q = fG G mu out q ++ (if G (q + out.length) = true then [mu x] else [])
  | [], q => by
    simp only [List.nil_append, fG, List.length_nil, Nat.add_zero]
  | y :: ys, q => by
    have ih := fG_app x ys (q + 1)
    rw [List.cons_append, List.length_cons, show q + (ys.length + 1) = q + 1 + ys.length by omega]
    rw [fG_cons, fG_cons]
    by_cases h : G q = true
    · rw [if_pos h, if_pos h, ih, List.cons_append]
    · rw [if_neg h, if_neg h, ih]
theorem fG_get : ∀ (out : List S38) q i (h : i < out.length), G (q + i) = true → (fG G mu out q)[rho G (q + i) - rho G q]? = some (mu out[i])
  | [], q, i, h, _ => by simp at h
  | x :: xs, q, 0, _, hg => by
    rw [fG_cons]
    rw [if_pos (by simpa using hg)]
    show (mu x :: _)[rho G q - rho G q]? = _
    rw [Nat.sub_self]
    rfl
  | x :: xs, q, i + 1, h, hg => by
    have h' : i < xs.length := by simpa using h
    have ih := fG_get xs (q + 1) i h' (by rw [show q + 1 + i = q + (i + 1) by omega]; exact hg)
    rw [show q + 1 + i = q + (i + 1) by omega] at ih
    rw [fG_cons]
    by_cases hq : G q = true
    · rw [if_pos hq]
      have h3 := rho_succ G q hq
      have h4 := rho_le G (show q + 1 ≤ q + (i + 1) by omega)
      rw [show rho G (q + (i + 1)) - rho G q = rho G (q + (i + 1)) - rho G (q + 1) + 1 by omega, List.getElem?_cons_succ]
      exact ih
    · rw [if_neg hq]
      rw [rho_skip G q (by simpa using hq)] at ih
      exact ih
theorem fG_set (y : S38) : ∀ (out : List S38) q i, i < out.length → fG G mu (out.set i y) q = if G (q + i) = true then (fG G mu out q).set (rho G (q + i) - rho G q) (mu y) else fG G mu out q
  | [], q, i, h => by simp at h
  | x :: xs, q, 0, _ => by
    rw [List.set_cons_zero]
    show _ = if G q = true then (fG G mu (x :: xs) q).set (rho G q - rho G q) (mu y) else _
    rw [Nat.sub_self]
    rw [fG_cons, fG_cons]
    by_cases hg : G q = true
    · rw [if_pos hg, if_pos hg, if_pos hg, List.set_cons_zero]
    · rw [if_neg hg, if_neg hg, if_neg hg]
  | x :: xs, q, i + 1, h => by
    have h' : i < xs.length := by simpa using h
    have ih := fG_set y xs (q + 1) i h'
    rw [show q + 1 + i = q + (i + 1) by omega] at ih
    rw [List.set_cons_succ]
    rw [fG_cons, fG_cons]
    by_cases hq : G q = true
    · rw [if_pos hq, if_pos hq, ih]
      have h3 := rho_succ G q hq
      have h4 := rho_le G (show q + 1 ≤ q + (i + 1) by omega)
      by_cases hg : G (q + (i + 1)) = true
      · rw [if_pos hg, if_pos hg, show rho G (q + (i + 1)) - rho G q = rho G (q + (i + 1)) - rho G (q + 1) + 1 by omega, List.set_cons_succ]
      · rw [if_neg hg, if_neg hg]
    · rw [if_neg hq, if_neg hq, ih, rho_skip G q (by simpa using hq)]
end
def muP (P : Nat → Bool) (x : S38) : S38 := ⟨x.f0, x.f1, x.f2, (rho P x.f3.toNat : Int), if x.f4 = -1 then -1 else (rho P x.f4.toNat : Int)⟩
theorem kept_calls (l0 : List S67) (own : Nat → Int) (g : Int → Bool) (P : Nat → Bool) (hP : P = fun i => g (own i)) (G : Nat → Bool) (hG : G = fun (q : Nat) => g (q : Int)) (v : List S67) (hv : v = flt l0 P l0.length 0) : ∀ d (j : Nat) (op : List Bool) (ops : List S33) (last last' : List Int) (out r : List S38), j + d = l0.length → op.length = 64 → last.length = 64 → last'.length = 64 → chkGo l0 d j op ops = 0 →
    (∀ t : Int, 0 ≤ t → t < 64 → rdOf false op t = true → (0 ≤ rd last t ∧ rd last t < out.length) ∧ (G (rd last t).toNat = true → rd last' t = (rho G (rd last t).toNat : Int))) →
    ow l0 own d j last out.length → callsGo l0 d j last out = some r → callsGo v (rho P l0.length - rho P j) (rho P j) last' (fG G (muP P) out 0) = some (fG G (muP P) r 0)
  | 0, j, op, ops, last, last', out, r, hd, h1, h2, h3, hc, hop, hw, hr => by
    rw [show j = l0.length by omega, Nat.sub_self]
    simp only [callsGo, Option.some.injEq] at hr
    subst hr
    rfl
  | d + 1, j, op, ops, last, last', out, r, hd, h1, h2, h3, hc, hop, hw, hr => by
    obtain ⟨hf, hf1, -, hc'⟩ := chk_step hc
    obtain ⟨e, he⟩ : ∃ e, e = J67 l0 (j : Int) := ⟨_, rfl⟩
    simp only [callsGo, ← he] at hr
    rw [← he] at hf hf1 hc'
    rw [if_pos hf] at hr
    unfold ow at hw
    rw [← he] at hw
    have hlenG := fG_len G (muP P) out 0
    rw [Nat.zero_add] at hlenG
    have hlenG' : (fG G (muP P) out 0).length = rho G out.length := hlenG
    have hev : P j = true → J67 v ((rho P j : Nat) : Int) = e := fun hp => by
      have := flt_get l0 P l0.length 0 j (Nat.zero_le _) (by omega) hp
      rw [← hv] at this
      have h0 : rho P 0 = 0 := rfl
      rw [h0, Nat.sub_zero] at this
      unfold J67
      rw [Int.toNat_natCast, List.getD_eq_getElem?_getD, this, he]
      rfl
    by_cases hb : e.f1 = true
    · obtain ⟨hq, hl⟩ := hop e.f0 hf.1 hf.2 (by rw [← hf1]; exact hb)
      rw [if_pos hb] at hw hr
      obtain ⟨hwo, hw⟩ := hw
      obtain ⟨q, hqe⟩ : ∃ q, q = rd last e.f0 := ⟨_, rfl⟩
      rw [← hqe] at hq hl hwo hr
      split at hr
      rotate_left
      · cases hr
      rename_i hg
      obtain ⟨qn, rfl⟩ : ∃ qn : Nat, q = (qn : Int) := ⟨q.toNat, by omega⟩
      rw [Int.toNat_natCast] at hl hr
      have hqn : qn < out.length := by omega
      have hPG : P j = G qn := by rw [hP, hG]; show g (own j) = g (qn : Int); rw [hwo]
      obtain ⟨vv, hvv⟩ : ∃ vv : S38, vv = ⟨(J38 out (qn : Int)).f0, (J38 out (qn : Int)).f1, e.f3, (J38 out (qn : Int)).f3, (j : Int)⟩ := ⟨_, rfl⟩
      rw [← hvv] at hr
      have hset := fG_set G (muP P) vv out 0 qn hqn
      rw [Nat.zero_add] at hset
      have hop' : ∀ t : Int, 0 ≤ t → t < 64 → rdOf false (op.set e.f0.toNat (!e.f1)) t = true → (0 ≤ rd last t ∧ rd last t < (out.set qn vv).length) ∧ (G (rd last t).toNat = true → rd last' t = (rho G (rd last t).toNat : Int)) := fun t t0 t1 ht => by
        rw [rdOf_set _ _ _ _ (by omega) t0] at ht
        by_cases e1 : t = e.f0
        · rw [if_pos e1, hb] at ht; simp at ht
        · rw [if_neg e1] at ht
          rw [List.length_set]
          exact hop t t0 t1 ht
      have ih := kept_calls l0 own g P hP G hG v hv d (j + 1) _ _ last last' _ r (by omega) (by simpa using h1) h2 h3 hc' hop' (by rw [List.length_set]; exact hw) hr
      rw [hset] at ih
      by_cases hp : P j = true
      · rw [if_pos (by rw [← hPG]; exact hp), show rho G 0 = 0 from rfl, Nat.sub_zero] at ih
        have hrs := rho_succ P j hp
        have hrl := rho_le P (show j + 1 ≤ l0.length by omega)
        have hgq : G qn = true := by rw [← hPG]; exact hp
        have hlq := hl hgq
        have hlt : rho G qn < rho G out.length := (rho_lt G qn out.length hgq).2 hqn
        have hget := fG_get G (muP P) out 0 qn hqn (by rw [Nat.zero_add]; exact hgq)
        rw [Nat.zero_add, show rho G 0 = 0 from rfl, Nat.sub_zero, rd38_get out qn hqn] at hget
        have hrd : J38 (fG G (muP P) out 0) ((rho G qn : Nat) : Int) = muP P (J38 out (qn : Int)) := by
          rw [J38, Int.toNat_natCast, List.getD_eq_getElem?_getD, hget]
          rfl
        rw [show rho P l0.length - rho P j = (rho P l0.length - rho P (j + 1)) + 1 by omega]
        simp only [callsGo]
        rw [hev hp, if_pos hf, if_pos hb, hlq, if_pos ⟨⟨by omega, by rw [hlenG']; omega⟩, hg.2⟩, Int.toNat_natCast, hrd, ← hrs]
        refine Eq.trans ?_ ih
        congr 2
        rw [hvv]
        unfold muP
        simp only [Int.toNat_natCast]
        rw [if_neg (show ¬ ((j : Int) = -1) by omega)]
      · have hp' : P j = false := by simpa using hp
        rw [if_neg (by rw [← hPG]; exact hp), rho_skip P j hp'] at ih
        exact ih
    · have hb' : e.f1 = false := by simpa using hb
      rw [if_neg hb] at hw hr
      obtain ⟨hwo, hw⟩ := hw
      split at hr
      rotate_left
      · cases hr
      rename_i hg
      have hPG : P j = G out.length := by rw [hP, hG]; show g (own j) = g (out.length : Int); rw [hwo]
      obtain ⟨vv, hvv⟩ : ∃ vv : S38, vv = ⟨e.f0, e.f2, z36, (j : Int), -1⟩ := ⟨_, rfl⟩
      rw [← hvv] at hr
      have happ := fG_app G (muP P) vv out 0
      rw [Nat.zero_add] at happ
      have hmu : muP P vv = ⟨e.f0, e.f2, z36, (rho P j : Int), -1⟩ := by
        rw [hvv]
        unfold muP
        simp only [Int.toNat_natCast]
        rfl
      have hop' : ∀ l' : List Int, (∀ t : Int, 0 ≤ t → t < 64 → t ≠ e.f0 → rd l' t = rd last' t) → (G out.length = true → rd l' e.f0 = (rho G out.length : Int)) → ∀ t : Int, 0 ≤ t → t < 64 → rdOf false (op.set e.f0.toNat (!e.f1)) t = true → (0 ≤ rd (last.set e.f0.toNat (out.length : Int)) t ∧ rd (last.set e.f0.toNat (out.length : Int)) t < (out ++ [vv]).length) ∧ (G (rd (last.set e.f0.toNat (out.length : Int)) t).toNat = true → rd l' t = (rho G (rd (last.set e.f0.toNat (out.length : Int)) t).toNat : Int)) := fun l' g1 g2 t t0 t1 ht => by
        rw [rdOf_set _ _ _ _ (by omega) t0] at ht
        rw [rd_set _ _ _ _ (by omega) t0, List.length_append, List.length_singleton]
        by_cases e1 : t = e.f0
        · rw [if_pos e1, Int.toNat_natCast, e1]
          exact ⟨by omega, g2⟩
        · rw [if_neg e1] at ht
          rw [if_neg e1, g1 t t0 t1 e1]
          have := hop t t0 t1 ht
          exact ⟨by omega, this.2⟩
      by_cases hp : P j = true
      · have hgq : G out.length = true := by rw [← hPG]; exact hp
        have ih := kept_calls l0 own g P hP G hG v hv d (j + 1) _ _ (last.set e.f0.toNat (out.length : Int)) (last'.set e.f0.toNat ((rho G out.length : Nat) : Int)) _ r (by omega) (by simpa using h1) (by simpa using h2) (by simpa using h3) hc' (hop' _ (fun t t0 t1 hne => by rw [rd_set _ _ _ _ (by omega) t0, if_neg hne]) (fun _ => by rw [rd_set _ _ _ _ (by omega) hf.1, if_pos rfl])) (by rw [List.length_append, List.length_singleton]; exact hw) hr
        rw [happ, if_pos hgq, hmu] at ih
        have hrs := rho_succ P j hp
        have hrl := rho_le P (show j + 1 ≤ l0.length by omega)
        have hsmall : rho G out.length ≤ out.length := by
          clear ih
          have : ∀ m, rho G m ≤ m := by
            intro m
            induction m with
            | zero => exact Nat.le_refl _
            | succ m ihm =>
              show rho G m + _ ≤ _
              split <;> omega
          exact this _
        rw [show rho P l0.length - rho P j = (rho P l0.length - rho P (j + 1)) + 1 by omega]
        simp only [callsGo]
        rw [hev hp, if_pos hf, if_neg hb, hlenG', if_pos (by omega), ← hrs]
        exact ih
      · have hp' : P j = false := by simpa using hp
        have ih := kept_calls l0 own g P hP G hG v hv d (j + 1) _ _ (last.set e.f0.toNat (out.length : Int)) last' _ r (by omega) (by simpa using h1) (by simpa using h2) h3 hc' (hop' _ (fun t t0 t1 hne => rfl) (fun hgg => by rw [← hPG, hp'] at hgg; cases hgg)) (by rw [List.length_append, List.length_singleton]; exact hw) hr
        rw [happ, if_neg (by rw [← hPG]; exact hp), List.append_nil, rho_skip P j hp'] at ih
        exact ih
theorem donL_set : ∀ (out : List S38) (q : Nat) (y : S38) (h : q < out.length), pendB out[q] = true → pendB y = false → (donL (out.set q y)).length = (donL out).length + 1
  | [], q, y, h, _, _ => by simp at h
  | x :: xs, 0, y, _, h1, h2 => by
    have h1' : pendB x = true := h1
    unfold donL
    rw [List.set_cons_zero, List.filter_cons_of_pos (by rw [h2]; rfl), List.filter_cons_of_neg (by rw [h1']; decide), List.length_cons]
  | x :: xs, q + 1, y, h, h1, h2 => by
    have ih := donL_set xs q y (by simpa using h) (by simpa using h1) h2
    rw [List.set_cons_succ]
    unfold donL at ih ⊢
    by_cases hx : pendB x = true
    · rw [List.filter_cons_of_neg (by rw [hx]; decide), List.filter_cons_of_neg (by rw [hx]; decide)]
      exact ih
    · have hx' : pendB x = false := by simpa using hx
      rw [List.filter_cons_of_pos (by rw [hx']; rfl), List.filter_cons_of_pos (by rw [hx']; rfl), List.length_cons, List.length_cons, ih]
theorem half_go (l0 : List S67) : ∀ d (j : Nat) (op : List Bool) (ops : List S33) (last : List Int) (out r : List S38), op.length = 64 → last.length = 64 → chkGo l0 d j op ops = 0 →
    (∀ t : Int, 0 ≤ t → t < 64 → rdOf false op t = true → (0 ≤ rd last t ∧ rd last t < out.length) ∧ (J38 out (rd last t)).f0 = t ∧ (J38 out (rd last t)).f4 = -1) → out.length + (donL out).length = j → callsGo l0 d j last out = some r → r.length + (donL r).length = j + d
  | 0, j, op, ops, last, out, r, _, _, _, _, hh, hr => by
    simp only [callsGo, Option.some.injEq] at hr
    subst hr
    exact hh
  | d + 1, j, op, ops, last, out, r, h1, h2, hc, hop, hh, hr => by
    obtain ⟨hf, hf1, -, hc'⟩ := chk_step hc
    obtain ⟨e, he⟩ : ∃ e, e = J67 l0 (j : Int) := ⟨_, rfl⟩
    simp only [callsGo, ← he] at hr
    rw [← he] at hf hf1 hc'
    rw [if_pos hf] at hr
    rw [show j + (d + 1) = j + 1 + d by omega]
    by_cases hb : e.f1 = true
    · obtain ⟨hq, hq0, hq4⟩ := hop e.f0 hf.1 hf.2 (by rw [← hf1]; exact hb)
      obtain ⟨q, hqe⟩ : ∃ q, q = rd last e.f0 := ⟨_, rfl⟩
      rw [if_pos hb] at hr
      rw [← hqe] at hq hq0 hq4 hr
      split at hr
      rotate_left
      · cases hr
      rename_i hg
      obtain ⟨v, hv⟩ : ∃ v : S38, v = ⟨(J38 out q).f0, (J38 out q).f1, e.f3, (J38 out q).f3, (j : Int)⟩ := ⟨_, rfl⟩
      rw [← hv] at hr
      have hv4 : v.f4 = (j : Int) := by rw [hv]
      clear hv hg
      refine half_go l0 d (j + 1) _ _ last _ r (by simpa using h1) h2 hc' (fun t t0 t1 ht => ?_) ?_ hr
      · rw [rdOf_set _ _ _ _ (by omega) t0] at ht
        by_cases e1 : t = e.f0
        · rw [if_pos e1, hb] at ht; simp at ht
        · rw [if_neg e1] at ht
          obtain ⟨a, b, c⟩ := hop t t0 t1 ht
          rw [List.length_set, rd38_set out q _ v hq a.1]
          have : rd last t ≠ q := fun hh => e1 (by rw [hh] at b; omega)
          rw [if_neg this]
          exact ⟨a, b, c⟩
      · have hqn : q.toNat < out.length := by omega
        have hg : out[q.toNat] = J38 out q := by
          rw [rd38_get out q.toNat hqn, Int.toNat_of_nonneg hq.1]
        rw [List.length_set, donL_set out q.toNat v hqn (by rw [hg]; unfold pendB; rw [hq4]; rfl) (by unfold pendB; rw [hv4]; exact decide_eq_false (by omega))]
        omega
    · have hb' : e.f1 = false := by simpa using hb
      rw [if_neg hb] at hr
      split at hr
      rotate_left
      · cases hr
      obtain ⟨v, hv⟩ : ∃ v : S38, v = ⟨e.f0, e.f2, z36, (j : Int), -1⟩ := ⟨_, rfl⟩
      rw [← hv] at hr
      have hv0 : v.f0 = e.f0 := by rw [hv]
      have hv4 : v.f4 = -1 := by rw [hv]
      clear hv
      refine half_go l0 d (j + 1) _ _ (last.set e.f0.toNat (out.length : Int)) _ r (by simpa using h1) (by simpa using h2) hc' (fun t t0 t1 ht => ?_) ?_ hr
      · rw [rdOf_set _ _ _ _ (by omega) t0] at ht
        rw [rd_set _ _ _ _ (by omega) t0, List.length_append, List.length_singleton]
        by_cases e1 : t = e.f0
        · rw [if_pos e1, rd38_app out v _ (by omega), if_pos rfl, hv0, hv4]
          exact ⟨by omega, e1.symm, rfl⟩
        · rw [if_neg e1] at ht
          obtain ⟨a, b, c⟩ := hop t t0 t1 ht
          rw [if_neg e1, rd38_app out v _ (by omega), if_neg (by omega)]
          exact ⟨by omega, b, c⟩
      · unfold donL
        rw [List.filter_append, List.length_append, List.length_append, List.length_singleton, List.filter_cons_of_neg (by unfold pendB; rw [hv4]; decide)]
        unfold donL at hh
        simp only [List.filter_nil, List.length_nil]
        omega
end Go.Proofs.Ytagdkmcgepidoaa.P
