/- P.eventParts_holds, part 29 of 29: the contracts of the Go functions that the law calls, its own walk, and its plain law, for every input that the statement speaks of. -/
import Derived.Test.YtagdkmcgepidoaaMParts26
import Derived.Test.YtagdkmcgepidoaaMParts22
import Derived.Test.YtagdkmcgepidoaaMParts23
import Derived.Test.YtagdkmcgepidoaaMParts27
import Derived.Test.YtagdkmcgepidoaaMParts25
import Derived.Test.YtagdkmcgepidoaaMParts4
import Derived.Test.YtagdkmcgepidoaaMParts5
set_option linter.unusedVariables false
set_option linter.unusedSimpArgs false
/- P4 -/
namespace Go.Proofs.Ytagdkmcgepidoaa.P
open Go.RowKit Go.Proofs.YtagdkmcgepidoaaW.PrintWords Go.Proofs.YtagdkmcgepidoaaW.PrintLast Go.Proofs.YtagdkmcgepidoaaW.PrintMore
theorem chk_step {l0 : List S67} {d j : Nat} {op : List Bool} {ops : List S33} (h : chkGo l0 (d + 1) j op ops = 0) :
    (0 ≤ (J67 l0 (j : Int)).f0 ∧ (J67 l0 (j : Int)).f0 < 64) ∧ (J67 l0 (j : Int)).f1 = rdOf false op (J67 l0 (j : Int)).f0 ∧ evOk (J67 l0 (j : Int)) ops = true ∧ chkGo l0 d (j + 1) (op.set (J67 l0 (j : Int)).f0.toNat (!(J67 l0 (j : Int)).f1)) (ops.set (J67 l0 (j : Int)).f0.toNat (J67 l0 (j : Int)).f2) = 0 := by
  unfold chkGo at h
  split at h
  · omega
  rename_i h1
  split at h
  rotate_left
  · omega
  rename_i h2
  exact ⟨by omega, Decidable.byContradiction fun hh => h1 (.inr (.inr hh)), h2, h⟩
theorem rd38_set (x : List S38) (a i : Int) (v : S38) (ha : 0 ≤ a ∧ a < x.length) (hi : 0 ≤ i) : J38 (x.set a.toNat v) i = if i = a then v else J38 x i := by
  unfold J38
  rw [List.getD_eq_getElem?_getD, List.getElem?_set]
  by_cases e : i = a
  · subst e
    rw [if_pos rfl, if_pos (by omega), if_pos rfl]
    rfl
  · rw [if_neg (by omega), if_neg e, List.getD_eq_getElem?_getD]
theorem rd38_app (x : List S38) (v : S38) (i : Int) (hi : 0 ≤ i ∧ i ≤ x.length) : J38 (x ++ [v]) i = if i = x.length then v else J38 x i := by
  unfold J38
  rw [List.getD_eq_getElem?_getD]
  by_cases e : i = x.length
  · rw [if_pos e, List.getElem?_append_right (by omega), show i.toNat - x.length = 0 by omega]
    rfl
  · rw [if_neg e, List.getElem?_append_left (by omega), List.getD_eq_getElem?_getD]
structure Own (out : List S38) (j : Nat) (own : Nat → Int) : Prop where
  fr : ∀ q : Int, 0 ≤ q → q < out.length → (0 ≤ (J38 out q).f3 ∧ (J38 out q).f3 < j) ∧ own (J38 out q).f3.toNat = q
  tw : ∀ q : Int, 0 ≤ q → q < out.length → (J38 out q).f4 = -1 ∨ ((0 ≤ (J38 out q).f4 ∧ (J38 out q).f4 < j) ∧ own (J38 out q).f4.toNat = q)
  al : ∀ i : Nat, i < j → (0 ≤ own i ∧ own i < out.length) ∧ ((J38 out (own i)).f3 = i ∨ (J38 out (own i)).f4 = i)
def resp (l0 : List S67) (p : Nat → Bool) : Nat → Nat → (Int → Bool) → Prop
  | 0, _, _ => True
  | d + 1, j, lp => if (J67 l0 (j : Int)).f1 = true then p j = lp (J67 l0 (j : Int)).f0 ∧ resp l0 p d (j + 1) lp else resp l0 p d (j + 1) (fun t => if t = (J67 l0 (j : Int)).f0 then p j else lp t)
theorem own_go (l0 : List S67) : ∀ d (j : Nat) (op : List Bool) (ops : List S33) (last : List Int) (out r : List S38) (own : Nat → Int), op.length = 64 → last.length = 64 → chkGo l0 d j op ops = 0 →
    (∀ t : Int, 0 ≤ t → t < 64 → rdOf false op t = true → (0 ≤ rd last t ∧ rd last t < out.length) ∧ (J38 out (rd last t)).f0 = t ∧ (J38 out (rd last t)).f4 = -1) → Own out j own → callsGo l0 d j last out = some r →
    ∃ own' : Nat → Int, (∀ i, i < j → own' i = own i) ∧ Own r (j + d) own' ∧ ∀ g : Int → Bool, ∀ lp : Int → Bool, (∀ t : Int, 0 ≤ t → t < 64 → lp t = g (rd last t)) → resp l0 (fun i => g (own' i)) d j lp
  | 0, j, op, ops, last, out, r, own, _, _, _, _, hO, hr => by
    simp only [callsGo, Option.some.injEq] at hr
    subst hr
    exact ⟨own, fun _ _ => rfl, hO, fun _ _ _ => trivial⟩
  | d + 1, j, op, ops, last, out, r, own, h1, h2, hc, hop, hO, hr => by
    obtain ⟨hf, hf1, -, hc'⟩ := chk_step hc
    obtain ⟨e, he⟩ : ∃ e, e = J67 l0 (j : Int) := ⟨_, rfl⟩
    simp only [callsGo, ← he] at hr
    rw [← he] at hf hf1 hc'
    rw [if_pos hf] at hr
    by_cases hb : e.f1 = true
    · obtain ⟨hq, hq0, hq4⟩ := hop e.f0 hf.1 hf.2 (by rw [← hf1]; exact hb)
      obtain ⟨q, hqe⟩ : ∃ q, q = rd last e.f0 := ⟨_, rfl⟩
      rw [if_pos hb] at hr
      rw [← hqe] at hq hq0 hq4 hr
      split at hr
      rotate_left
      · cases hr
      rename_i hg
      obtain ⟨v, hv⟩ : ∃ v : S38, v = ⟨(J38 out q).f0, (J38 out q).f1, e.f3, (J38 out q).f3, (j : Int)⟩ := ⟨_, rfl⟩
      rw [← hv] at hr
      have hv0 : v.f0 = e.f0 := by rw [hv]; exact hq0
      have hv3 : v.f3 = (J38 out q).f3 := by rw [hv]
      have hv4 : v.f4 = (j : Int) := by rw [hv]
      clear hv hg
      have rs : ∀ i : Int, 0 ≤ i → J38 (out.set q.toNat v) i = if i = q then v else J38 out i := fun i hi => rd38_set out q i v hq hi
      have hO' : Own (out.set q.toNat v) (j + 1) (fun i => if i = j then q else own i) := by
        refine ⟨fun i i0 i1 => ?_, fun i i0 i1 => ?_, fun i hi => ?_⟩
        · rw [List.length_set] at i1
          rw [rs i i0]
          obtain ⟨a, b⟩ := hO.fr i i0 i1
          by_cases e1 : i = q
          · subst e1
            rw [if_pos rfl, hv3]
            exact ⟨by omega, by rw [if_neg (by omega)]; exact b⟩
          · rw [if_neg e1]
            exact ⟨by omega, by rw [if_neg (by omega)]; exact b⟩
        · rw [List.length_set] at i1
          rw [rs i i0]
          by_cases e1 : i = q
          · subst e1
            rw [if_pos rfl, hv4]
            right
            exact ⟨by omega, by rw [if_pos (by omega)]⟩
          · rw [if_neg e1]
            rcases hO.tw i i0 i1 with a | ⟨a, b⟩
            · exact .inl a
            · exact .inr ⟨by omega, by rw [if_neg (by omega)]; exact b⟩
        · rw [List.length_set]
          by_cases e2 : i = j
          · rw [if_pos e2, rs q hq.1, if_pos rfl, hv4]
            exact ⟨hq, .inr (by omega)⟩
          · rw [if_neg e2]
            obtain ⟨a, b⟩ := hO.al i (by omega)
            rw [rs _ a.1]
            refine ⟨a, ?_⟩
            by_cases e1 : own i = q
            · rw [if_pos e1, hv3]
              rw [e1] at b
              rcases b with b | b
              · exact .inl b
              · omega
            · rw [if_neg e1]
              exact b
      obtain ⟨own', hp, hO2, hR⟩ := own_go l0 d (j + 1) _ _ last _ r _ (by simpa using h1) h2 hc' (fun t t0 t1 ht => by
        rw [rdOf_set _ _ _ _ (by omega) t0] at ht
        by_cases e1 : t = e.f0
        · rw [if_pos e1, hb] at ht; simp at ht
        · rw [if_neg e1] at ht
          obtain ⟨a, b, c⟩ := hop t t0 t1 ht
          rw [List.length_set, rs _ a.1]
          have : rd last t ≠ q := fun hh => e1 (by rw [hh] at b; omega)
          rw [if_neg this]
          exact ⟨a, b, c⟩) hO' hr
      refine ⟨own', fun i hi => ?_, by rw [show j + (d + 1) = j + 1 + d by omega]; exact hO2, fun g lp hlp => ?_⟩
      · rw [hp i (by omega)]
        exact if_neg (by omega)
      · unfold resp
        rw [← he, if_pos hb]
        refine ⟨?_, hR g lp hlp⟩
        rw [hp j (by omega), hlp e.f0 hf.1 hf.2, ← hqe, if_pos rfl]
    · have hb' : e.f1 = false := by simpa using hb
      rw [if_neg hb] at hr
      split at hr
      rotate_left
      · cases hr
      obtain ⟨v, hv⟩ : ∃ v : S38, v = ⟨e.f0, e.f2, z36, (j : Int), -1⟩ := ⟨_, rfl⟩
      rw [← hv] at hr
      have hv0 : v.f0 = e.f0 := by rw [hv]
      have hv3 : v.f3 = (j : Int) := by rw [hv]
      have hv4 : v.f4 = -1 := by rw [hv]
      clear hv
      have rs : ∀ i : Int, 0 ≤ i ∧ i ≤ out.length → J38 (out ++ [v]) i = if i = out.length then v else J38 out i := fun i hi => rd38_app out v i hi
      have hO' : Own (out ++ [v]) (j + 1) (fun i => if i = j then (out.length : Int) else own i) := by
        refine ⟨fun i i0 i1 => ?_, fun i i0 i1 => ?_, fun i hi => ?_⟩
        · rw [List.length_append, List.length_singleton] at i1
          rw [rs i (by omega)]
          by_cases e1 : i = out.length
          · rw [if_pos e1, hv3]
            exact ⟨by omega, by rw [if_pos (by omega)]; exact e1.symm⟩
          · rw [if_neg e1]
            obtain ⟨a, b⟩ := hO.fr i i0 (by omega)
            exact ⟨by omega, by rw [if_neg (by omega)]; exact b⟩
        · rw [List.length_append, List.length_singleton] at i1
          rw [rs i (by omega)]
          by_cases e1 : i = out.length
          · rw [if_pos e1, hv4]
            exact .inl rfl
          · rw [if_neg e1]
            rcases hO.tw i i0 (by omega) with a | ⟨a, b⟩
            · exact .inl a
            · exact .inr ⟨by omega, by rw [if_neg (by omega)]; exact b⟩
        · rw [List.length_append, List.length_singleton]
          by_cases e2 : i = j
          · rw [if_pos e2, rs _ (by omega), if_pos rfl, hv3]
            exact ⟨by omega, .inl (by omega)⟩
          · rw [if_neg e2]
            obtain ⟨a, b⟩ := hO.al i (by omega)
            rw [rs _ (by omega), if_neg (by omega)]
            exact ⟨by omega, b⟩
      obtain ⟨own', hp, hO2, hR⟩ := own_go l0 d (j + 1) _ _ (last.set e.f0.toNat (out.length : Int)) _ r _ (by simpa using h1) (by simpa using h2) hc' (fun t t0 t1 ht => by
        rw [rdOf_set _ _ _ _ (by omega) t0] at ht
        rw [rd_set _ _ _ _ (by omega) t0, List.length_append, List.length_singleton]
        by_cases e1 : t = e.f0
        · rw [if_pos e1, rs _ (by omega), if_pos rfl, hv0, hv4]
          exact ⟨by omega, e1.symm, rfl⟩
        · rw [if_neg e1] at ht
          obtain ⟨a, b, c⟩ := hop t t0 t1 ht
          rw [if_neg e1, rs _ (by omega), if_neg (by omega)]
          exact ⟨by omega, b, c⟩) hO' hr
      refine ⟨own', fun i hi => ?_, by rw [show j + (d + 1) = j + 1 + d by omega]; exact hO2, fun g lp hlp => ?_⟩
      · rw [hp i (by omega)]
        exact if_neg (by omega)
      · unfold resp
        rw [← he, if_neg hb]
        refine hR g _ fun t t0 t1 => ?_
        rw [rd_set _ _ _ _ (by omega) t0, hp j (by omega), if_pos rfl]
        split
        · rfl
        · exact hlp t t0 t1
def chkL : List S67 → List Bool → List S33 → Int
  | [], _, _ => 0
  | e :: es, op, ops => if e.f0 < 0 ∨ e.f0 ≥ 64 ∨ e.f1 ≠ rdOf false op e.f0 then 3 else if evOk e ops = true then chkL es (op.set e.f0.toNat (!e.f1)) (ops.set e.f0.toNat e.f2) else 3
theorem chkGo_L (l0 : List S67) : ∀ d (j : Nat) (op : List Bool) (ops : List S33), j + d = l0.length → chkGo l0 d j op ops = chkL (l0.drop j) op ops
  | 0, j, op, ops, h => by rw [List.drop_eq_nil_of_le (by omega)]; rfl
  | d + 1, j, op, ops, h => by
    rw [drop67 l0 j (by omega)]
    unfold chkGo chkL
    rw [chkGo_L l0 d (j + 1) _ _ (by omega)]
def flt (l0 : List S67) (p : Nat → Bool) : Nat → Nat → List S67
  | 0, _ => []
  | d + 1, j => if p j = true then J67 l0 (j : Int) :: flt l0 p d (j + 1) else flt l0 p d (j + 1)
theorem keptL_flt (l0 : List S67) (p : Nat → Bool) : ∀ d (j : Nat) (out : List S67), keptL p l0 d j out = out ++ flt l0 p d j
  | 0, j, out => by simp [keptL, flt]
  | d + 1, j, out => by
    unfold keptL flt
    split
    · rw [keptL_flt l0 p d (j + 1)]; simp
    · exact keptL_flt l0 p d (j + 1) out
theorem flt_chk (l0 : List S67) (p : Nat → Bool) : ∀ d (j : Nat) (op opK : List Bool) (ops opsK : List S33) (lp : Int → Bool), op.length = 64 → opK.length = 64 → ops.length = 64 → opsK.length = 64 → chkGo l0 d j op ops = 0 → resp l0 p d j lp →
    (∀ t : Int, 0 ≤ t → t < 64 → rdOf false opK t = (rdOf false op t && lp t) ∧ (rdOf false opK t = true → J33 opsK t = J33 ops t)) → chkL (flt l0 p d j) opK opsK = 0
  | 0, _, _, _, _, _, _, _, _, _, _, _, _, _ => rfl
  | d + 1, j, op, opK, ops, opsK, lp, n1, n2, n3, n4, hc, hR, hI => by
    obtain ⟨hf, hf1, hok, hc'⟩ := chk_step hc
    unfold resp at hR
    obtain ⟨e, he⟩ : ∃ e, e = J67 l0 (j : Int) := ⟨_, rfl⟩
    rw [← he] at hf hf1 hok hc' hR
    have hE := hI e.f0 hf.1 hf.2
    unfold flt
    rw [← he]
    by_cases hb : e.f1 = true
    · rw [if_pos hb] at hR
      obtain ⟨hpj, hR⟩ := hR
      rw [← hf1, hb, Bool.true_and, ← hpj] at hE
      by_cases hpt : p j = true
      · rw [if_pos hpt]
        rw [hpt] at hE
        unfold chkL
        have hok' : evOk e opsK = true := by
          unfold evOk at hok ⊢
          rw [if_pos hb] at hok ⊢
          rw [hE.2 hE.1]
          exact hok
        rw [if_neg (by rw [hE.1, hb]; simp; omega), if_pos hok']
        refine flt_chk l0 p d (j + 1) _ _ _ _ lp (by simpa using n1) (by simpa using n2) (by simpa using n3) (by simpa using n4) hc' hR fun t t0 t1 => ?_
        rw [rdOf_set _ _ _ _ (by omega) t0, rdOf_set _ _ _ _ (by omega) t0, rd33_set _ _ _ _ (by omega) t0, rd33_set _ _ _ _ (by omega) t0]
        by_cases e1 : t = e.f0
        · rw [if_pos e1, if_pos e1, if_pos e1, if_pos e1, hb]
          simp
        · rw [if_neg e1, if_neg e1, if_neg e1, if_neg e1]
          exact hI t t0 t1
      · rw [if_neg hpt]
        have hpf : p j = false := by simpa using hpt
        rw [hpf] at hE
        refine flt_chk l0 p d (j + 1) _ opK _ opsK lp (by simpa using n1) n2 (by simpa using n3) n4 hc' hR fun t t0 t1 => ?_
        rw [rdOf_set _ _ _ _ (by omega) t0, rd33_set _ _ _ _ (by omega) t0]
        by_cases e1 : t = e.f0
        · rw [if_pos e1, if_pos e1, hb, e1, hE.1]
          simp
        · rw [if_neg e1, if_neg e1]
          exact hI t t0 t1
    · have hb' : e.f1 = false := by simpa using hb
      rw [if_neg hb] at hR
      rw [← hf1, hb', Bool.false_and] at hE
      by_cases hpt : p j = true
      · rw [if_pos hpt]
        unfold chkL
        have hok' : evOk e opsK = true := by
          unfold evOk at hok ⊢
          rw [if_neg hb] at hok ⊢
          exact hok
        rw [if_neg (by rw [hE.1, hb']; simp; omega), if_pos hok']
        refine flt_chk l0 p d (j + 1) _ _ _ _ _ (by simpa using n1) (by simpa using n2) (by simpa using n3) (by simpa using n4) hc' hR fun t t0 t1 => ?_
        rw [rdOf_set _ _ _ _ (by omega) t0, rdOf_set _ _ _ _ (by omega) t0, rd33_set _ _ _ _ (by omega) t0, rd33_set _ _ _ _ (by omega) t0]
        by_cases e1 : t = e.f0
        · rw [if_pos e1, if_pos e1, if_pos e1, if_pos e1, hb', if_pos e1, hpt]
          simp
        · rw [if_neg e1, if_neg e1, if_neg e1, if_neg e1, if_neg e1]
          exact hI t t0 t1
      · rw [if_neg hpt]
        have hpf : p j = false := by simpa using hpt
        refine flt_chk l0 p d (j + 1) _ opK _ opsK _ (by simpa using n1) n2 (by simpa using n3) n4 hc' hR fun t t0 t1 => ?_
        rw [rdOf_set _ _ _ _ (by omega) t0, rd33_set _ _ _ _ (by omega) t0]
        by_cases e1 : t = e.f0
        · rw [if_pos e1, if_pos e1, if_pos e1, hb', e1, hE.1, hpf]
          simp
        · rw [if_neg e1, if_neg e1, if_neg e1]
          exact hI t t0 t1
theorem rdOf_rep (n : Nat) (t : Int) : rdOf false (List.replicate n false) t = false := by
  unfold rdOf
  rw [List.getD_eq_getElem?_getD, List.getElem?_replicate]
  split <;> rfl
theorem kept_chk (l0 : List S67) (p : Nat → Bool) (lp : Int → Bool) (hl : l0.length ≤ 100000) (hc : chkGo l0 l0.length 0 (List.replicate 64 false) (List.replicate 64 z33) = 0) (hR : resp l0 p l0.length 0 lp) : event_Check.f (keptL p l0 l0.length 0 []) = some 0 := by
  have hlen := keptL_len p l0 l0.length 0 []
  unfold event_Check.f
  rw [if_neg (by simp at hlen; omega), chkGo_L _ _ 0 _ _ (by omega), List.drop_zero, keptL_flt, List.nil_append, flt_chk l0 p l0.length 0 (List.replicate 64 false) _ (List.replicate 64 z33) _ lp (by simp) (by simp) (by simp) (by simp) hc hR (fun t t0 t1 => by
    rw [rdOf_rep]
    exact ⟨rfl, fun h => by cases h⟩)]
theorem check_nil : event_Check.f [] = some 0 := by
  unfold event_Check.f
  simp [chkGo]
theorem keptL_congr (l0 : List S67) (p p' : Nat → Bool) : ∀ d (j : Nat) (out : List S67), (∀ i, j ≤ i → i < j + d → p i = p' i) → keptL p l0 d j out = keptL p' l0 d j out
  | 0, _, _, _ => rfl
  | d + 1, j, out, h => by
    unfold keptL
    rw [h j (by omega) (by omega)]
    split
    · exact keptL_congr l0 p p' d (j + 1) _ fun i a b => h i (by omega) (by omega)
    · exact keptL_congr l0 p p' d (j + 1) _ fun i a b => h i (by omega) (by omega)
theorem pairsGo_refl (a : List S70) : ∀ d j, pairsGo a a d j = true
  | 0, _ => rfl
  | d + 1, j => by unfold pairsGo; rw [pairsGo_refl a d (j + 1)]; simp
theorem evSame_refl (a : S67) : evSame a a = true := by
  unfold evSame sameRetB opSame
  simp [pairsGo_refl]
theorem seGo_refl (a : List S67) : ∀ d j, seGo a a d j = true
  | 0, _ => rfl
  | d + 1, j => by unfold seGo; rw [seGo_refl a d (j + 1), evSame_refl]; simp
theorem seB_refl (a : List S67) : seB a a = true := by
  unfold seB
  rw [seGo_refl]
  simp
theorem same_kept (l0 : List S67) (p : Nat → Bool) (hl : l0.length ≤ 100000) (hp : ∀ e ∈ l0, e.f3.f3.length ≤ 1048576) : Ev (fun k => larchref05_SameEvents.f k (keptL p l0 l0.length 0 []) (keptL p l0 l0.length 0 [])) true := by
  have hlen := keptL_len p l0 l0.length 0 []
  have := se_ev (keptL p l0 l0.length 0 []) (keptL p l0 l0.length 0 []) (by simp at hlen; omega) (fun e he => by
    rcases keptL_mem _ l0 l0.length 0 [] (by omega) e he with h | h
    · simp at h
    · exact hp e h)
  rw [seB_refl] at this
  exact this
theorem same_nil : Ev (fun k => larchref05_SameEvents.f k [] []) true := by
  have := se_ev [] [] (by simp) (by simp)
  rw [seB_refl] at this
  exact this
end Go.Proofs.Ytagdkmcgepidoaa.P
/- P5 -/
namespace Go.Proofs.Ytagdkmcgepidoaa.P
open Go.RowKit Go.Proofs.YtagdkmcgepidoaaW.PrintWords Go.Proofs.YtagdkmcgepidoaaW.PrintLast Go.Proofs.YtagdkmcgepidoaaW.PrintMore
theorem places_go (r : List S38) (n : Nat) (own : Nat → Int) (hO : Own r n own) (hr : r.length ≤ 100000) : ∀ d (m : Nat) (x : List Int) (k : Nat), m + d = r.length → d < k → x.length = n → (∀ i : Nat, i < n → own i < m → rd x (i : Int) = own i) →
    ∃ wh, event_places.l0 k x r (r.length : Int) (m : Int) = some wh ∧ wh.length = n ∧ ∀ i : Nat, i < n → rd wh (i : Int) = own i
  | 0, m, x, k, hd, hk, hx, hI => by
    obtain ⟨k, rfl⟩ : ∃ k', k = k' + 1 := ⟨k - 1, by omega⟩
    refine ⟨x, ?_, hx, fun i hi => hI i hi (by have := hO.al i hi; omega)⟩
    simp only [event_places.l0]
    rw [if_neg (by omega)]
  | d + 1, m, x, k, hd, hk, hx, hI => by
    obtain ⟨k, rfl⟩ : ∃ k', k = k' + 1 := ⟨k - 1, by omega⟩
    obtain ⟨a, b⟩ := hO.fr (m : Int) (by omega) (by omega)
    have hn : ∀ y : List Int, y = x.set (J38 r (m : Int)).f3.toNat (m : Int) → ∀ i : Nat, i < n → own i < ((m + 1 : Nat) : Int) → ((J38 r (m : Int)).f4 ≠ (i : Int)) → rd y (i : Int) = own i := by
      intro y hy i hi h1 h2
      rw [hy, rd_set _ _ _ _ (by omega) (by omega)]
      obtain ⟨-, h3⟩ := hO.al i hi
      by_cases e1 : own i = (m : Int)
      · rw [e1] at h3
        rw [if_pos (by omega), e1]
      · rw [if_neg (fun hh => e1 (by rw [← hh] at b; simpa using b))]
        exact hI i hi (by omega)
    rcases hO.tw (m : Int) (by omega) (by omega) with h4 | ⟨h4, h5⟩
    · obtain ⟨wh, w1, w2, w3⟩ := places_go r n own hO hr d (m + 1) (x.set (J38 r (m : Int)).f3.toNat (m : Int)) k (by omega) (by omega) (by simpa using hx) (fun i hi hlt => hn _ rfl i hi hlt (by omega))
      refine ⟨wh, ?_, w2, w3⟩
      simp only [event_places.l0]
      rw [if_pos (by omega), if_pos (by omega), if_pos (by omega), if_pos a.1, if_pos (by omega)]
      simp only [Option.bind_some]
      rw [if_neg (by omega), wrap_succ (by omega)]
      exact w1
    · obtain ⟨wh, w1, w2, w3⟩ := places_go r n own hO hr d (m + 1) ((x.set (J38 r (m : Int)).f3.toNat (m : Int)).set (J38 r (m : Int)).f4.toNat (m : Int)) k (by omega) (by omega) (by simpa using hx) (fun i hi hlt => by
        rw [rd_set _ _ _ _ (by rw [List.length_set]; omega) (by omega)]
        by_cases e1 : (i : Int) = (J38 r (m : Int)).f4
        · rw [if_pos e1]
          rw [← e1] at h5
          simpa using h5.symm
        · rw [if_neg e1]
          exact hn _ rfl i hi hlt (fun hh => e1 hh.symm))
      refine ⟨wh, ?_, w2, w3⟩
      simp only [event_places.l0]
      rw [if_pos (by omega), if_pos (by omega), if_pos (by omega), if_pos a.1, if_pos (by omega)]
      simp only [Option.bind_some]
      rw [if_pos (by omega), if_pos h4.1, if_pos (by omega), wrap_succ (by omega)]
      exact w1
theorem places_val (l0 : List S67) (r : List S38) (own : Nat → Int) (hO : Own r l0.length own) (hl : l0.length ≤ 100000) (hr : r.length ≤ l0.length) : ∃ wh, event_places.f 200002 l0 r = some wh ∧ wh.length = l0.length ∧ ∀ i : Nat, i < l0.length → rd wh (i : Int) = own i := by
  obtain ⟨wh, w1, w2, w3⟩ := places_go r l0.length own hO (by omega) r.length 0 (List.replicate l0.length 0) 200002 (by omega) (by omega) (by simp) (fun i hi h => by have := hO.al i hi; omega)
  refine ⟨wh, ?_, w2, w3⟩
  unfold event_places.f
  rw [if_pos (by omega), if_pos (by omega)]
  exact w1
theorem ref1_go (l0 : List S67) (inn : List Bool) (hl : l0.length ≤ 100000) (hi : inn.length = l0.length) (hp : ∀ e ∈ l0, e.f3.f3.length ≤ 1048576) : ∀ d (j : Nat) (out : List S67), j + d = l0.length → out.length ≤ j → (∀ e ∈ out, e.f3.f3.length ≤ 1048576) → Ev (fun k => larchref05_kept.l1 k l0 inn out (j : Int)) (keptL (fun i => rdOf false inn (i : Int)) l0 d j out)
  | 0, j, out, hd, ho, hq => by
    refine Ev.succ (Ev.congr (g := fun k => (larchref05_CopyEvents.f k out).bind fun t => some t) (Ev.bind (copy_ev out (by omega) hq) (Ev.const _)) fun k => ?_)
    simp only [larchref05_kept.l1]
    rw [if_neg (by omega)]
  | d + 1, j, out, hd, ho, hq => by
    have hpe := hp _ (rd67_mem l0 j (by omega))
    unfold keptL
    by_cases h : rdOf false inn (j : Int) = true
    · rw [if_pos h]
      refine Ev.succ ((ref1_go l0 inn hl hi hp d (j + 1) (out ++ [J67 l0 (j : Int)]) (by omega) (by simp; omega) (fun e he => by
        rcases List.mem_append.1 he with h1 | h1
        · exact hq e h1
        · simp at h1; rw [h1]; exact hpe)).congr fun k => ?_)
      simp only [larchref05_kept.l1]
      rw [if_pos (by omega), if_pos (by omega), if_pos (by omega), if_pos h, if_pos (by omega), wrap_succ (by omega)]
    · rw [if_neg h]
      refine Ev.succ ((ref1_go l0 inn hl hi hp d (j + 1) out (by omega) (by omega) hq).congr fun k => ?_)
      simp only [larchref05_kept.l1]
      rw [if_pos (by omega), if_pos (by omega), if_pos (by omega), if_neg h, wrap_succ (by omega)]
theorem ref0_go (l0 : List S67) (r : List S38) (own : Nat → Int) (keep : List Bool) (hO : Own r l0.length own) (hl : l0.length ≤ 100000) (hr : r.length ≤ l0.length) (hkl : keep.length = r.length) (hp : ∀ e ∈ l0, e.f3.f3.length ≤ 1048576) :
    ∀ d (m : Nat) (x : List Bool), m + d = r.length → x.length = l0.length → (∀ i : Nat, i < l0.length → rdOf false x (i : Int) = (decide (own i < m) && rdOf false keep (own i))) →
    Ev (fun k => larchref05_kept.l0 k l0 keep (r.map conv) x (m : Int)) (keptL (fun i => rdOf false keep (own i)) l0 l0.length 0 [])
  | 0, m, x, hd, hx, hI => by
    refine Ev.succ ((ref1_go l0 x hl hx hp l0.length 0 [] (by omega) (by simp) (by simp)).congr' ?_ fun k => ?_)
    · refine keptL_congr l0 _ _ _ _ _ fun i _ hi => ?_
      have := (hO.al i (by omega)).1
      rw [hI i (by omega), decide_eq_true (by omega), Bool.true_and]
    · simp only [larchref05_kept.l0, List.length_map]
      rw [if_neg (by omega)]
      rfl
  | d + 1, m, x, hd, hx, hI => by
    obtain ⟨a, b⟩ := hO.fr (m : Int) (by omega) (by omega)
    have hrd : J76 (r.map conv) (m : Int) = conv (J38 r (m : Int)) := rd76_map r (m : Int) ⟨by omega, by omega⟩
    have c3 : (conv (J38 r (m : Int))).f3 = (J38 r (m : Int)).f3 := rfl
    have c4 : (conv (J38 r (m : Int))).f4 = (J38 r (m : Int)).f4 := rfl
    have stay : ∀ i : Nat, own i ≠ (m : Int) → (decide (own i < ((m + 1 : Nat) : Int)) && rdOf false keep (own i)) = (decide (own i < m) && rdOf false keep (own i)) := by
      intro i hi
      congr 1
      exact decide_eq_decide.mpr (by omega)
    by_cases hk : rdOf false keep (m : Int) = true
    · have hn : ∀ y : List Bool, y = x.set (J38 r (m : Int)).f3.toNat true → ∀ i : Nat, i < l0.length → ((J38 r (m : Int)).f4 ≠ (i : Int)) → rdOf false y (i : Int) = (decide (own i < ((m + 1 : Nat) : Int)) && rdOf false keep (own i)) := by
        intro y hy i hi h2
        rw [hy, rdOf_set _ _ _ _ (by omega) (by omega)]
        obtain ⟨-, h3⟩ := hO.al i hi
        by_cases e1 : own i = (m : Int)
        · rw [e1] at h3 ⊢
          rw [if_pos (by omega), hk, decide_eq_true (by omega)]
          rfl
        · rw [if_neg (fun hh => e1 (by rw [← hh] at b; simpa using b)), stay i e1]
          exact hI i hi
      rcases hO.tw (m : Int) (by omega) (by omega) with h4 | ⟨h4, h5⟩
      · refine Ev.succ ((ref0_go l0 r own keep hO hl hr hkl hp d (m + 1) (x.set (J38 r (m : Int)).f3.toNat true) (by omega) (by simpa using hx) (fun i hi => hn _ rfl i hi (by omega))).congr fun k => ?_)
        simp only [larchref05_kept.l0, List.length_map, hrd, c3, c4]
        rw [if_pos (by omega), if_pos (by omega), if_pos (by omega), if_pos hk, if_pos a.1, if_pos (by omega)]
        simp only [Option.bind_some]
        rw [if_pos h4, wrap_succ (by omega)]
      · refine Ev.succ ((ref0_go l0 r own keep hO hl hr hkl hp d (m + 1) ((x.set (J38 r (m : Int)).f3.toNat true).set (J38 r (m : Int)).f4.toNat true) (by omega) (by simpa using hx) (fun i hi => by
          rw [rdOf_set _ _ _ _ (by rw [List.length_set]; omega) (by omega)]
          by_cases e1 : (i : Int) = (J38 r (m : Int)).f4
          · rw [if_pos e1]
            rw [← e1] at h5
            have h6 : own i = (m : Int) := by simpa using h5
            rw [h6, hk, decide_eq_true (by omega)]
            rfl
          · rw [if_neg e1]
            exact hn _ rfl i hi (fun hh => e1 hh.symm))).congr fun k => ?_)
        simp only [larchref05_kept.l0, List.length_map, hrd, c3, c4]
        rw [if_pos (by omega), if_pos (by omega), if_pos (by omega), if_pos hk, if_pos a.1, if_pos (by omega)]
        simp only [Option.bind_some]
        rw [if_neg (by omega), if_pos h4.1, if_pos (by omega), wrap_succ (by omega)]
    · have hk' : rdOf false keep (m : Int) = false := by simpa using hk
      refine Ev.succ ((ref0_go l0 r own keep hO hl hr hkl hp d (m + 1) x (by omega) hx (fun i hi => by
        by_cases e1 : own i = (m : Int)
        · rw [hI i hi, e1, hk']
          simp
        · rw [stay i e1]
          exact hI i hi)).congr fun k => ?_)
      simp only [larchref05_kept.l0, List.length_map, hrd, c3, c4]
      rw [if_pos (by omega), if_pos (by omega), if_pos (by omega), if_neg hk, wrap_succ (by omega)]
theorem kept_ev (l0 : List S67) (r : List S38) (own : Nat → Int) (keep : List Bool) (hO : Own r l0.length own) (hl : l0.length ≤ 100000) (hr : r.length ≤ l0.length) (hkl : keep.length = r.length) (hp : ∀ e ∈ l0, e.f3.f3.length ≤ 1048576)
    (hc : Ev (fun k => larchref05_calls.f k l0) (r.map conv)) : Ev (fun k => larchref05_kept.f k l0 keep) (keptL (fun i => rdOf false keep (own i)) l0 l0.length 0 []) := by
  unfold larchref05_kept.f
  refine Ev.bind hc ((ref0_go l0 r own keep hO hl hr hkl hp r.length 0 (List.replicate l0.length false) (by omega) (by simp) (fun i hi => ?_)).congr fun k => ?_)
  · have := (hO.al i hi).1
    rw [rdOf_rep, decide_eq_false (by omega)]
    rfl
  · rw [if_pos (by omega), if_pos (by omega)]
    rfl
theorem all_of (l0 : List S67) (hp : ∀ e ∈ l0, e.f3.f3.length ≤ 1048576) (hE : event_Check.f l0 = some 0) : l0.length ≤ 100000 ∧ chkGo l0 l0.length 0 (List.replicate 64 false) (List.replicate 64 z33) = 0 ∧ ∃ (r : List S38) (own : Nat → Int),
    event_Calls.f l0 = some (r, 0) ∧ Ev (fun k => larchref05_Calls.f k l0) (r.map conv, 0) ∧ Ev (fun k => larchref05_calls.f k l0) (r.map conv) ∧ r.length ≤ l0.length ∧ Own r l0.length own ∧ ∀ g : Int → Bool, resp l0 (fun i => g (own i)) l0.length 0 (fun _ => g 0) := by
  obtain ⟨c, hc, hR, h0⟩ := check_both l0
  rw [hE] at hc
  cases hc
  obtain ⟨hl, hchk⟩ := h0 rfl
  obtain ⟨r, ha, hb, hk⟩ := calls_both l0 hl hp l0.length 0 (List.replicate 64 false) (List.replicate 64 z33) (List.replicate 64 0) [] (by omega) (by simp) (by simp) (by simp) hchk (fun i _ _ hi => by
    rw [rdOf_rep] at hi
    cases hi) (by simp) (by simp)
  obtain ⟨own, -, hO, hG⟩ := own_go l0 l0.length 0 (List.replicate 64 false) (List.replicate 64 z33) (List.replicate 64 0) [] r (fun _ => 0) (by simp) (by simp) hchk (fun t _ _ ht => by
    rw [rdOf_rep] at ht
    cases ht) ⟨fun q q0 q1 => by simp at q1; omega, fun q q0 q1 => by simp at q1; omega, fun i hi => by omega⟩ ha
  rw [Nat.zero_add] at hO
  have hcl : Ev (fun k => larchref05_calls.f k l0) (r.map conv) := hb.congr fun k => by
    unfold larchref05_calls.f
    rw [if_pos (by decide)]
    rfl
  refine ⟨hl, hchk, r, own, ?_, ?_, hcl, hk.len, hO, fun g => hG g _ fun t t0 t1 => ?_⟩
  · unfold event_Calls.f event_calls.f
    rw [hE]
    simp only [Option.bind_some, if_true]
    rw [ha]
    rfl
  · unfold larchref05_Calls.f
    refine Ev.bind hR ?_
    simp only [if_true]
    exact Ev.bind hcl (Ev.const _)
  · unfold rd
    rw [List.getD_eq_getElem?_getD, List.getElem?_replicate]
    split <;> rfl
theorem bad_of (l0 : List S67) (c : Int) (hE : event_Check.f l0 = some c) (h0 : c ≠ 0) : event_Calls.f l0 = some ([], c) ∧ Ev (fun k => larchref05_Calls.f k l0) ([], c) := by
  obtain ⟨c', hc, hR, -⟩ := check_both l0
  rw [hE] at hc
  cases hc
  refine ⟨?_, ?_⟩
  · unfold event_Calls.f
    rw [hE]
    simp only [Option.bind_some, if_neg h0]
  · unfold larchref05_Calls.f
    refine Ev.bind hR ?_
    simp only [if_neg h0]
    exact Ev.const _
theorem cut_go (l0 : List S67) (n : Int) (r : List S38) (own : Nat → Int) (hO : Own r l0.length own) (hl : l0.length ≤ 100000) (hr : r.length ≤ l0.length) (hp : ∀ e ∈ l0, e.f3.f3.length ≤ 1048576) (hc : Ev (fun k => larchref05_calls.f k l0) (r.map conv)) :
    ∀ d (m : Nat) (x : List Bool), m + d = r.length → x.length = r.length → (∀ q : Int, 0 ≤ q → q < m → rdOf false x q = decide (q < n)) →
    Ev (fun k => larchref05_Cut.l0 k l0 n (r.map conv) x (m : Int)) (keptL (fun i => decide (own i < n)) l0 l0.length 0 [], 0)
  | 0, m, x, hd, hx, hI => by
    refine Ev.succ (Ev.congr' (g := fun k => (larchref05_kept.f k l0 x).bind fun t => some (t, (0 : Int))) (Ev.bind (kept_ev l0 r own x hO hl hr hx hp hc) (Ev.const _)) ?_ fun k => ?_)
    · rw [keptL_congr l0 _ (fun i => rdOf false x (own i))]
      intro i _ hi
      have := (hO.al i (by omega)).1
      rw [hI _ this.1 (by omega)]
    · simp only [larchref05_Cut.l0, List.length_map]
      rw [if_neg (by omega)]
  | d + 1, m, x, hd, hx, hI => by
    refine Ev.succ ((cut_go l0 n r own hO hl hr hp hc d (m + 1) (x.set m (decide ((m : Int) < n))) (by omega) (by simpa using hx) (fun q q0 q1 => by
      have := rdOf_set x (m : Int) q (decide ((m : Int) < n)) (by omega) q0
      rw [Int.toNat_natCast] at this
      rw [this]
      by_cases e1 : q = m
      · rw [if_pos e1, e1]
      · rw [if_neg e1]
        exact hI q q0 (by omega))).congr fun k => ?_)
    simp only [larchref05_Cut.l0, List.length_map]
    rw [if_pos (by omega), if_pos (by omega), if_pos (by omega), wrap_succ (by omega), Int.toNat_natCast]
theorem mem_rd (wh : List Int) (x : Int) (h : x ∈ wh) : ∃ i : Nat, i < wh.length ∧ rd wh (i : Int) = x := by
  obtain ⟨i, hi, rfl⟩ := List.mem_iff_getElem.1 h
  refine ⟨i, hi, ?_⟩
  unfold rd
  rw [Int.toNat_natCast, List.getD_eq_getElem?_getD, List.getElem?_eq_getElem hi]
  rfl
theorem cut_both (l0 : List S67) (hp : ∀ e ∈ l0, e.f3.f3.length ≤ 1048576) (n : Int) : ∃ (v : List S67) (c : Int), event_Cut.f l0 n = some (v, c) ∧ Ev (fun k => larchref05_Cut.f k l0 n) (v, c) ∧ event_Check.f v = some 0 ∧ Ev (fun k => larchref05_SameEvents.f k v v) true := by
  obtain ⟨c, hE, hR, -⟩ := check_both l0
  by_cases e0 : c = 0
  · subst e0
    obtain ⟨hl, hchk, r, own, hA, hB, hC, hr, hO, hG⟩ := all_of l0 hp hE
    by_cases hn : n < 0
    · refine ⟨[], 1, ?_, ?_, check_nil, same_nil⟩
      · unfold event_Cut.f
        rw [hA]
        simp only [Option.bind_some, if_true]
        rw [if_pos hn]
      · unfold larchref05_Cut.f
        refine Ev.bind hB ?_
        simp only [if_true]
        exact (Ev.const _).congr fun k => if_pos hn
    · obtain ⟨wh, w1, w2, w3⟩ := places_val l0 r own hO hl hr
      have hkc : keptL (cutP wh n) l0 l0.length 0 [] = keptL (fun i => decide (own i < n)) l0 l0.length 0 [] := keptL_congr l0 _ _ _ _ _ fun i _ hi => by
        unfold cutP
        rw [w3 i (by omega)]
      refine ⟨keptL (fun i => decide (own i < n)) l0 l0.length 0 [], 0, ?_, ?_, kept_chk l0 _ _ hl hchk (hG fun q => decide (q < n)), same_kept l0 _ hl hp⟩
      · unfold event_Cut.f
        rw [hA]
        simp only [Option.bind_some, if_true]
        rw [if_neg hn, w1]
        simp only [Option.bind_some]
        rw [if_pos ⟨⟨hl, hp⟩, w2⟩, hkc]
      · unfold larchref05_Cut.f
        refine Ev.bind hB ?_
        simp only [if_true]
        refine (cut_go l0 n r own hO hl hr hp hC r.length 0 (List.replicate r.length false) (by omega) (by simp) (fun q q0 q1 => by omega)).congr fun k => ?_
        simp only [List.length_map]
        rw [if_neg hn, if_pos (by omega), if_pos (by omega)]
        rfl
  · obtain ⟨hA, hB⟩ := bad_of l0 c hE e0
    refine ⟨[], c, ?_, ?_, check_nil, same_nil⟩
    · unfold event_Cut.f
      rw [hA]
      simp only [Option.bind_some, if_neg e0]
    · unfold larchref05_Cut.f
      refine Ev.bind hB ?_
      simp only [if_neg e0]
      exact Ev.const _
theorem done_go (l0 : List S67) (r : List S38) (own : Nat → Int) (hO : Own r l0.length own) (hl : l0.length ≤ 100000) (hr : r.length ≤ l0.length) (hp : ∀ e ∈ l0, e.f3.f3.length ≤ 1048576) (hc : Ev (fun k => larchref05_calls.f k l0) (r.map conv)) :
    ∀ d (m : Nat) (x : List Bool), m + d = r.length → x.length = r.length → (∀ q : Int, 0 ≤ q → q < m → rdOf false x q = ((J38 r q).f4 != -1)) →
    Ev (fun k => larchref05_Done.l0 k l0 (r.map conv) x (m : Int)) (keptL (fun i => (J38 r (own i)).f4 != -1) l0 l0.length 0 [], 0)
  | 0, m, x, hd, hx, hI => by
    refine Ev.succ (Ev.congr' (g := fun k => (larchref05_kept.f k l0 x).bind fun t => some (t, (0 : Int))) (Ev.bind (kept_ev l0 r own x hO hl hr hx hp hc) (Ev.const _)) ?_ fun k => ?_)
    · rw [keptL_congr l0 _ (fun i => rdOf false x (own i))]
      intro i _ hi
      have := (hO.al i (by omega)).1
      rw [hI _ this.1 (by omega)]
    · simp only [larchref05_Done.l0, List.length_map]
      rw [if_neg (by omega)]
  | d + 1, m, x, hd, hx, hI => by
    refine Ev.succ ((done_go l0 r own hO hl hr hp hc d (m + 1) (x.set m ((J38 r (m : Int)).f4 != -1)) (by omega) (by simpa using hx) (fun q q0 q1 => by
      have := rdOf_set x (m : Int) q ((J38 r (m : Int)).f4 != -1) (by omega) q0
      rw [Int.toNat_natCast] at this
      rw [this]
      by_cases e1 : q = m
      · rw [if_pos e1, e1]
      · rw [if_neg e1]
        exact hI q q0 (by omega))).congr fun k => ?_)
    simp only [larchref05_Done.l0, List.length_map]
    rw [if_pos (by omega), if_pos (by omega), if_pos (by omega), wrap_succ (by omega), Int.toNat_natCast, rd76_map r (m : Int) ⟨by omega, by omega⟩]
    rfl
theorem done_both (l0 : List S67) (hp : ∀ e ∈ l0, e.f3.f3.length ≤ 1048576) : ∃ (v : List S67) (c : Int), event_Done.f l0 = some (v, c) ∧ Ev (fun k => larchref05_Done.f k l0) (v, c) ∧ event_Check.f v = some 0 ∧ Ev (fun k => larchref05_SameEvents.f k v v) true := by
  obtain ⟨c, hE, hR, -⟩ := check_both l0
  by_cases e0 : c = 0
  · subst e0
    obtain ⟨hl, hchk, r, own, hA, hB, hC, hr, hO, hG⟩ := all_of l0 hp hE
    obtain ⟨wh, w1, w2, w3⟩ := places_val l0 r own hO hl hr
    have hkc : keptL (doneP r wh) l0 l0.length 0 [] = keptL (fun i => (J38 r (own i)).f4 != -1) l0 l0.length 0 [] := keptL_congr l0 _ _ _ _ _ fun i _ hi => by
      unfold doneP
      rw [w3 i (by omega)]
      have h1 := (hO.al i (by omega)).1
      have h2 := hO.tw _ h1.1 h1.2
      rcases h2 with h2 | h2
      · rw [h2]; rfl
      · rw [decide_eq_true (by omega)]
        exact (bne_iff_ne.mpr (by omega)).symm
    refine ⟨keptL (fun i => (J38 r (own i)).f4 != -1) l0 l0.length 0 [], 0, ?_, ?_, kept_chk l0 _ _ hl hchk (hG fun q => (J38 r q).f4 != -1), same_kept l0 _ hl hp⟩
    · unfold event_Done.f
      rw [hA]
      simp only [Option.bind_some, if_true]
      rw [w1]
      simp only [Option.bind_some]
      rw [if_pos ⟨⟨⟨hl, hp⟩, w2⟩, fun x hx => by
        obtain ⟨i, hi, rfl⟩ := mem_rd wh x hx
        rw [w3 i (by omega)]
        exact (hO.al i (by omega)).1⟩, hkc]
    · unfold larchref05_Done.f
      refine Ev.bind hB ?_
      simp only [if_true]
      refine (done_go l0 r own hO hl hr hp hC r.length 0 (List.replicate r.length false) (by omega) (by simp) (fun q q0 q1 => by omega)).congr fun k => ?_
      simp only [List.length_map]
      rw [if_pos (by omega), if_pos (by omega)]
      rfl
  · obtain ⟨hA, hB⟩ := bad_of l0 c hE e0
    refine ⟨[], c, ?_, ?_, check_nil, same_nil⟩
    · unfold event_Done.f
      rw [hA]
      simp only [Option.bind_some, if_neg e0]
    · unfold larchref05_Done.f
      refine Ev.bind hB ?_
      simp only [if_neg e0]
      exact Ev.const _
theorem of_resp (l0 : List S67) (t : Int) : ∀ d (j : Nat) (lp : Int → Bool), (∀ x, lp x = (x == t)) → resp l0 (ofP l0 t) d j lp
  | 0, _, _, _ => trivial
  | d + 1, j, lp, h => by
    unfold resp
    split
    · exact ⟨(h _).symm, of_resp l0 t d (j + 1) lp h⟩
    · refine of_resp l0 t d (j + 1) _ fun x => ?_
      by_cases e : x = (J67 l0 (j : Int)).f0
      · rw [if_pos e, e]
        rfl
      · rw [if_neg e]
        exact h x
theorem of_all (l0 : List S67) (hp : ∀ e ∈ l0, e.f3.f3.length ≤ 1048576) (t : Int) : ∃ (v : List S67) (c : Int), event_Of.f l0 t = some (v, c) ∧ Ev (fun k => larchref05_Of.f k l0 t) (v, c) ∧ event_Check.f v = some 0 ∧ Ev (fun k => larchref05_SameEvents.f k v v) true := by
  obtain ⟨v, c, h1, h2, h3, h4⟩ := of_both l0 hp t
  refine ⟨v, c, h1, h2, ?_⟩
  by_cases e0 : c = 0
  · subst e0
    obtain ⟨c', hE, hR, h0⟩ := check_both l0
    have e1 : c' = 0 := by
      refine Decidable.byContradiction fun hh => ?_
      unfold event_Of.f at h1
      rw [hE] at h1
      simp only [Option.bind_some, if_neg hh, Option.some.injEq, Prod.mk.injEq] at h1
      exact hh h1.2
    obtain ⟨hl, hchk⟩ := h0 e1
    rw [h3 rfl]
    exact ⟨kept_chk l0 _ (fun x => x == t) hl hchk (of_resp l0 t _ _ _ fun _ => rfl), same_kept l0 _ hl hp⟩
  · rw [h4 e0]
    exact ⟨check_nil, same_nil⟩
theorem parts_pure : EventPartsPure := by
  intro l0 a1 a2 hl0 hp
  refine Ev.ex (f := fun k => larchlaw05_EventParts.f k l0 a1 a2) ?_
  unfold larchlaw05_EventParts.f
  rw [known_ok3]
  simp only [Option.bind_some, if_true]
  obtain ⟨v, c, hA, hB, hC, hD⟩ := of_all l0 hp a1
  refine Ev.bind hB ?_
  rw [hA]
  simp only [Option.bind_some]
  refine Ev.bind hD ?_
  simp only [if_true]
  rw [hC]
  simp only [Option.bind_some]
  obtain ⟨v, c, hA, hB, hC, hD⟩ := cut_both l0 hp a2
  refine Ev.succ (Ev.congr (g := fun k => (larchref05_Cut.f k l0 a2).bind fun bt352 => (larchref05_SameEvents.f k bt352.1 v).bind fun t360 => if t360 = true then (if bt352.2 = c then larchlaw05_EventParts.j1 k l0 false else larchlaw05_EventParts.j1 k l0 true) else larchlaw05_EventParts.j1 k l0 true) ?_ fun k => ?_)
  · refine Ev.bind hB (Ev.bind hD ?_)
    simp only [if_true]
    obtain ⟨v, c, hA, hB, hC, hD⟩ := done_both l0 hp
    refine Ev.succ (Ev.congr (g := fun k => (larchref05_Done.f k l0).bind fun bt352 => (larchref05_SameEvents.f k bt352.1 v).bind fun t360 => if t360 = true then (if bt352.2 = c then some true else none) else none) ?_ fun k => ?_)
    · refine Ev.bind hB (Ev.bind hD ?_)
      simp only [if_true]
      exact Ev.const _
    · simp only [larchlaw05_EventParts.j1]
      rw [if_neg (by decide), hA]
      simp only [Option.bind_some]
      rw [hC]
      rfl
  · simp only [larchlaw05_EventParts.j0]
    rw [if_neg (by decide), hA]
    simp only [Option.bind_some]
    rw [hC]
    rfl
theorem eventParts_holds : Rows.EventPartsUptoSaid := EventParts_of parts_pure
end Go.Proofs.Ytagdkmcgepidoaa.P
#print axioms Go.Proofs.Ytagdkmcgepidoaa.P.eventParts_holds
