/- P.weighBound_holds, part 22 of 22: the contracts of the Go functions that the law calls, its own walk, and its plain law, for every input that the statement speaks of. -/
import Derived.Test.YtmmjkebboonnkaaMBound18
import Derived.Test.YtmmjkebboonnkaaMBound19
import Derived.Test.YtmmjkebboonnkaaMBound17
import Derived.Test.YtmmjkebboonnkaaMBound2
import Derived.Test.YtmmjkebboonnkaaMBound8
import Derived.Test.YtmmjkebboonnkaaMBound9
import Derived.Test.YtmmjkebboonnkaaMBound11
import Derived.Test.YtmmjkebboonnkaaMBound20
set_option linter.unusedVariables false
set_option linter.unusedSimpArgs false
/- P12 -/
namespace Go.Proofs.Ytmmjkebboonnkaa.P
open Go.RowKit Go.Proofs.YtmmjkebboonnkaaW.PrintWords Go.Proofs.YtmmjkebboonnkaaW.PrintLast Go.Proofs.YtmmjkebboonnkaaW.PrintMore
theorem viol_both {t : List S49} {rs os : List Int} (ho : ∀ x ∈ os, InT t x) (hl : os.length ≤ 100000) (wR : Ev (fun k => weigh_Reds.f k t) (rs, 0)) (rR : Ev (fun k => larchref17_Reds.f k t) (rs, 0)) (wO : Ev (fun k => weigh_Overs.f k t) (os, 0)) (rO : Ev (fun k => larchref17_Overs.f k t) (os, 0)) :
    Ev (fun k => weigh_Violations.f k t) (vsum t os os.length 0 rs.length, 0) ∧ Ev (fun k => larchref17_Violations.f k t) (vsum t os os.length 0 rs.length, 0) := by
  constructor
  · unfold weigh_Violations.f
    refine Ev.bind wR ?_
    simp only [reduceIte]
    exact Ev.bind wO (wViol_go ho hl os.length 0 _ (by omega))
  · unfold larchref17_Violations.f
    refine Ev.bind rR ?_
    simp only [reduceIte]
    exact Ev.bind rO (rViol_go ho hl os.length 0 _ (by omega))
end Go.Proofs.Ytmmjkebboonnkaa.P
/- P13 -/
namespace Go.Proofs.Ytmmjkebboonnkaa.P
open Go.RowKit Go.Proofs.YtmmjkebboonnkaaW.PrintWords Go.Proofs.YtmmjkebboonnkaaW.PrintLast Go.Proofs.YtmmjkebboonnkaaW.PrintMore
theorem drop_cons_ {l : List Int} {j : Nat} (h : j < l.length) : l.drop j = rd l (j : Int) :: l.drop (j + 1) := by
  rw [List.drop_eq_getElem_cons h, rd_nat, List.getElem?_eq_getElem h]
  rfl
def evenR (s : List Int) (j : Nat) : Int × Bool × Int := if (s.drop j).all (fun x => x == rd s 0) then (rd s 0, true, 0) else (0, false, 0)
theorem wEven_go {s : List Int} (hl : s.length ≤ 100000) (h0 : 0 < s.length) : ∀ d (j : Nat), j + d = s.length → Ev (fun k => weigh_Even.l0 k s s (s.length : Int) (j : Int)) (evenR s j)
  | 0, j, hd => by
    unfold evenR
    rw [List.drop_eq_nil_of_le (by omega)]
    refine Ev.succ ((Ev.const _).congr fun k => ?_)
    simp only [weigh_Even.l0]
    rw [if_neg (by omega), if_pos (by omega)]
    rfl
  | d + 1, j, hd => by
    have ih := wEven_go hl h0 d (j + 1) (by omega)
    unfold evenR at ih ⊢
    rw [drop_cons_ (by omega), List.all_cons]
    by_cases e : rd s (j : Int) = rd s 0
    · refine Ev.succ (ih.congr' (by simp [e]) fun k => ?_)
      simp only [weigh_Even.l0]
      rw [if_pos (by omega), if_pos (by omega), if_pos (by omega), if_pos (by omega), if_pos e, wrap_succ (by omega)]
    · refine Ev.succ ((Ev.const (0, false, 0)).congr' (by simp [e]) fun k => ?_)
      simp only [weigh_Even.l0]
      rw [if_pos (by omega), if_pos (by omega), if_pos (by omega), if_pos (by omega), if_neg e]
def okAt (t : List S49) (lp : List Int) (i : Nat) : Bool := !((decide (i = 0) && decide ((J49 t (rd lp (i : Int))).f2 ≠ 1)) || (decide (Leaf (J49 t (rd lp (i : Int)))) && decide ((J49 t (rd lp (i : Int))).f2 = 0)))
def soundB (t : List S49) (lp : List Int) : Nat → Nat → Bool
  | 0, _ => true
  | d + 1, j => okAt t lp j && soundB t lp d (j + 1)
theorem wSound_go {t : List S49} {l : List Int} (S : Sound t l) {lp : List Int} (hin : ∀ x ∈ lp, InT t x) (hl : lp.length ≤ 100000) (b : Bool) : ∀ d (j : Nat), j + d = lp.length → Ev (fun k => weigh_Sound.l0 k t b lp (lp.length : Int) (j : Int)) (if soundB t lp d j = true then (b, 0) else (false, 0))
  | 0, j, hd => by
    refine Ev.succ ((Ev.const _).congr fun k => ?_)
    simp only [weigh_Sound.l0, soundB, if_true]
    rw [if_neg (by omega)]
  | d + 1, j, hd => by
    have ih := wSound_go S hin hl b d (j + 1) (by omega)
    have hi := hin _ (rd_mem (l := lp) (j := j) (by omega))
    have hneg := S.neg _ hi
    obtain ⟨p0, p1⟩ := hi
    have hleaf : Leaf (J49 t (rd lp (j : Int))) ↔ (J49 t (rd lp (j : Int))).f4 < 0 := by
      constructor
      · intro h; have := h.1; omega
      · intro h
        refine Decidable.byContradiction fun hh => ?_
        have := hneg.2 hh
        omega
    simp only [soundB]
    by_cases ok : okAt t lp j = true
    · simp only [ok, Bool.true_and]
      refine Ev.succ (ih.congr fun k => ?_)
      simp only [okAt, Bool.not_eq_true', Bool.or_eq_false_iff, Bool.and_eq_false_iff, decide_eq_false_iff_not, hleaf] at ok
      simp only [weigh_Sound.l0]
      rw [if_pos (by omega), if_pos (by omega), if_pos (by omega), wrap_succ (by omega)]
      by_cases e : j = 0
      · subst e
        rw [if_pos (by rfl), if_pos p0, if_pos p1, if_pos (by omega)]
        by_cases hlf : (J49 t (rd lp ((0 : Nat) : Int))).f4 < 0
        · rw [if_pos hlf, if_neg (by omega)]
        · rw [if_neg hlf]
      · rw [if_neg (by omega), if_pos p0, if_pos p1]
        by_cases hlf : (J49 t (rd lp (j : Int))).f4 < 0
        · rw [if_pos hlf, if_neg (by omega)]
        · rw [if_neg hlf]
    · have ok' : okAt t lp j = false := by simpa using ok
      simp only [ok', Bool.false_and, Bool.false_eq_true, if_false]
      refine Ev.succ ((Ev.const (false, 0)).congr fun k => ?_)
      simp only [okAt, Bool.not_eq_false', Bool.or_eq_true, Bool.and_eq_true, decide_eq_true_eq, hleaf] at ok'
      simp only [weigh_Sound.l0]
      rw [if_pos (by omega), if_pos (by omega), if_pos (by omega)]
      by_cases e : j = 0
      · subst e
        rw [if_pos (by rfl), if_pos p0, if_pos p1]
        by_cases hw : (J49 t (rd lp ((0 : Nat) : Int))).f2 = 1
        · rw [if_pos hw, if_pos (by omega), if_pos (by omega)]
        · rw [if_neg hw]
      · rw [if_neg (by omega), if_pos p0, if_pos p1, if_pos (by omega), if_pos (by omega)]
end Go.Proofs.Ytmmjkebboonnkaa.P
/- P14 -/
namespace Go.Proofs.Ytmmjkebboonnkaa.P
open Go.RowKit Go.Proofs.YtmmjkebboonnkaaW.PrintWords Go.Proofs.YtmmjkebboonnkaaW.PrintLast Go.Proofs.YtmmjkebboonnkaaW.PrintMore
theorem deep_some {t : List S49} {l0 : List Int} (S : Sound t l0) {l : List Int} (hin : ∀ x ∈ l, InT t x) : ∀ d (i : Nat) (ds : List Int) (m : Int), i + d = l.length → ds.length = t.length → ∃ r, deepGo t l d i ds m = some r
  | 0, i, ds, m, _, _ => ⟨m, rfl⟩
  | d + 1, i, ds, m, hd, hs => by
    have hi := hin _ (rd_mem (l := l) (j := i) (by omega))
    unfold deepGo
    rw [if_pos ⟨hi, by rw [hs]; exact hi.2⟩]
    by_cases hl : Leaf (J49 t (rd l (i : Int)))
    · rw [if_pos (show _ ∧ _ from hl)]
      exact deep_some S hin d (i + 1) ds _ (by omega) hs
    · have hL := (S.left hi hl).1
      have hR := (S.right hi hl).1
      rw [if_neg (show ¬ (_ ∧ _) from hl), if_pos ⟨⟨hL.1, by rw [hs]; exact hL.2⟩, hR.1, by rw [hs]; exact hR.2⟩]
      exact deep_some S hin d (i + 1) _ _ (by omega) (by simp [hs])
theorem height_go {t : List S49} {l : List Int} (hl : l.length ≤ 100000) {r : Int} : ∀ d (i : Nat) (ds : List Int) (m : Int), i + d = l.length → deepGo t l d i ds m = some r → Ev (fun k => table_Height.l0 k t ds m l (l.length : Int) (i : Int)) (r, 0)
  | 0, i, ds, m, hd, h => by
    simp only [deepGo, Option.some.injEq] at h
    subst h
    refine Ev.succ ((Ev.const _).congr fun k => ?_)
    simp only [table_Height.l0]
    rw [if_neg (by omega)]
  | d + 1, i, ds, m, hd, h => by
    simp only [deepGo] at h
    split at h
    rotate_left
    · simp at h
    rename_i hc
    obtain ⟨⟨p0, p1⟩, p2⟩ := hc
    by_cases hlf : Leaf (J49 t (rd l (i : Int)))
    · rw [if_pos (show _ ∧ _ from hlf)] at h
      refine Ev.succ ((height_go hl d (i + 1) ds _ (by omega) h).congr fun k => ?_)
      simp only [table_Height.l0, isLeafF, Option.bind_some, decide_eq_true_eq]
      rw [if_pos (by omega), if_pos (by omega), if_pos (by omega), if_pos p0, if_pos p2, if_pos p1, if_pos hlf, wrap_succ (by omega)]
    · rw [if_neg (show ¬ (_ ∧ _) from hlf)] at h
      split at h
      rotate_left
      · simp at h
      rename_i hk
      obtain ⟨⟨a0, a1⟩, b0, b1⟩ := hk
      refine Ev.succ ((height_go hl d (i + 1) _ _ (by omega) h).congr fun k => ?_)
      simp only [table_Height.l0, isLeafF, Option.bind_some, decide_eq_true_eq]
      rw [if_pos (by omega), if_pos (by omega), if_pos (by omega), if_pos p0, if_pos p2, if_pos p1, if_neg hlf, if_pos a0, if_pos a1, if_pos b0, if_pos b1, wrap_succ (by omega)]
theorem height_of {t : List S49} {l : List Int} (S : Sound t l) (cT : Ev (fun k => table_Check.f k t) 0) : ∃ r : Int, deepGo t l l.length 0 (List.replicate t.length 0) 0 = some r ∧ Ev (fun k => table_Height.f k t) (r, 0) := by
  have h1 := S.len
  have h2 := S.small
  obtain ⟨r, hr⟩ := deep_some S S.tr.all l.length 0 (List.replicate t.length 0) 0 (by omega) (by simp)
  refine ⟨r, hr, ?_⟩
  unfold table_Height.f
  refine Ev.bind cT ?_
  refine Ev.congr (g := fun k => (table_order.f k t 0).bind fun t653 => table_Height.l0 k t (List.replicate t.length 0) 0 t653 (t653.length : Int) 0) ?_ fun k => ?_
  · exact Ev.bind (order_of S.tr S.nodup (by omega) (by omega)) (height_go (by omega) l.length 0 _ 0 (by omega) hr)
  · rw [if_pos rfl, if_pos (by omega), if_pos (by omega)]
    rfl
end Go.Proofs.Ytmmjkebboonnkaa.P
/- P15 -/
namespace Go.Proofs.Ytmmjkebboonnkaa.P
open Go.RowKit Go.Proofs.YtmmjkebboonnkaaW.PrintWords Go.Proofs.YtmmjkebboonnkaaW.PrintLast Go.Proofs.YtmmjkebboonnkaaW.PrintMore
theorem sel_filter (b : Int → Bool) (lp : List Int) : ∀ d (j : Nat), j + d = lp.length → sel b lp d j = (lp.drop j).filter b
  | 0, j, h => by rw [List.drop_eq_nil_of_le (by omega)]; rfl
  | d + 1, j, h => by
    rw [drop_cons_ (by omega), List.filter_cons, ← sel_filter b lp d (j + 1) (by omega)]
    rfl
theorem Keys.shape {t : List S49} {l : List Int} (S : Sound t l) {p : Int} {lp : List Int} (K : Keys t l p lp) : l = 0 :: (((J49 t 0).f4 :: (lp ++ [(J49 t (J49 t 0).f4).f5])) ++ [(J49 t 0).f5]) := by
  have h0 : InT t 0 := S.tr.inT
  have c0 := K.c0
  have c1 := K.c1
  have hL := (S.left h0 c0.1).1
  have hR := (S.right h0 c0.1).1
  have hR1 := (S.right hL c1.1).1
  have hp := K.tr
  rw [K.isP] at hp
  exact S.tr.uniq (.node h0 c0.1 (.node hL c1.1 hp (.leaf hR1 c1.2.2.2.1)) (.leaf hR c0.2.2.2.1))
end Go.Proofs.Ytmmjkebboonnkaa.P
/- P16 -/
namespace Go.Proofs.Ytmmjkebboonnkaa.P
open Go.RowKit Go.Proofs.YtmmjkebboonnkaaW.PrintWords Go.Proofs.YtmmjkebboonnkaaW.PrintLast Go.Proofs.YtmmjkebboonnkaaW.PrintMore
theorem leafSums_eq (t : List S49) (lp s : List Int) : ∀ d (j : Nat), j + d = lp.length → leafSums t lp s d j = ((lp.drop j).filter fun x => decide (Leaf (J49 t x))).map (rd s)
  | 0, j, h => by rw [List.drop_eq_nil_of_le (by omega)]; rfl
  | d + 1, j, h => by
    have ih := leafSums_eq t lp s d (j + 1) (by omega)
    rw [drop_cons_ (by omega), List.filter_cons]
    unfold leafSums
    by_cases e : Leaf (J49 t (rd lp (j : Int)))
    · rw [if_pos e, if_pos (by simpa using e), List.map_cons, ih]
    · rw [if_neg e, if_neg (by simpa using e), ih]
theorem ps_bound {t : List S49} {l : List Int} (S : Sound t l) {p : Int} {lp s : List Int} (h : Tr t p lp) (P : PS t lp s) (hw : ∀ x ∈ lp, (J49 t x).f2 = 0 ∨ (J49 t x).f2 = 1) (hr : (J49 t (rd lp 0)).f2 = 1) (hl : lp.length ≤ 100000) : ∀ j : Nat, j < lp.length → 1 ≤ rd s (rd lp (j : Int)) ∧ rd s (rd lp (j : Int)) ≤ j + 1 := by
  intro j
  induction j using Nat.strongRecOn with
  | ind j ih =>
    intro hj
    by_cases e : j = 0
    · subst e
      have := P.z (by omega)
      have e2 : rd lp ((0 : Nat) : Int) = rd lp 0 := rfl
      rw [e2, this, hr]
      omega
    · obtain ⟨i, a, b⟩ := h.parent j (by omega) hj
      have h1 := ih i a (by omega)
      have h2 := P.k i (by omega) _ b
      have h3 := hw _ (rd_mem hj)
      rw [h2]
      unfold wrap64
      omega
theorem Tr.kid_mem {t : List S49} {p : Int} {lp : List Int} (h : Tr t p lp) : ∀ q ∈ lp, ∀ c ∈ kids t q, c ∈ lp := by
  intro q hq c hc
  obtain ⟨lq, hlq, hsub⟩ := h.sub q hq
  cases hlq with
  | leaf hi hl =>
    unfold kids at hc
    rw [if_pos hl] at hc
    simp at hc
  | node hi hl h1 h2 =>
    unfold kids at hc
    rw [if_neg hl] at hc
    obtain ⟨l1, e1⟩ := h1.head
    obtain ⟨l2, e2⟩ := h2.head
    refine hsub.subset ?_
    simp at hc
    rcases hc with rfl | rfl
    · rw [e1]; simp
    · rw [e2]; simp
structure Good (t : List S49) (lp s : List Int) (n : Int) : Prop where
  w : ∀ x ∈ lp, (J49 t x).f2 = 0 ∨ (J49 t x).f2 = 1
  lw : ∀ x ∈ lp, Leaf (J49 t x) → (J49 t x).f2 = 1
  red : ∀ q ∈ lp, ∀ c ∈ kids t q, ¬ ((J49 t q).f2 = 0 ∧ (J49 t c).f2 = 0)
  st : ∀ q ∈ lp, ∀ c ∈ kids t q, rd s c = rd s q + (J49 t c).f2
  lf : ∀ x ∈ lp, Leaf (J49 t x) → rd s x = n
theorem good_leaves {t : List S49} {lp s : List Int} {n : Int} (G : Good t lp s n) {q : Int} {lq : List Int} (h : Tr t q lq) : (∀ x ∈ lq, x ∈ lp) → rd s q ≤ n ∧ 2 ^ (n - rd s q).toNat ≤ (lq.filter fun x => decide (Leaf (J49 t x))).length := by
  induction h with
  | @leaf p hp hl =>
    intro hin
    have := G.lf p (hin p (by simp)) hl
    rw [this]
    simp [hl]
  | @node p l1 l2 hp hl h1 h2 ih1 ih2 =>
    intro hin
    have hk : kids t p = [(J49 t p).f4, (J49 t p).f5] := by unfold kids; rw [if_neg hl]
    have hpl := hin p (by simp)
    obtain ⟨a1, b1⟩ := ih1 (fun x hx => hin x (by simp [hx]))
    obtain ⟨a2, b2⟩ := ih2 (fun x hx => hin x (by simp [hx]))
    have k1 := G.st p hpl _ (show (J49 t p).f4 ∈ kids t p by rw [hk]; simp)
    have k2 := G.st p hpl _ (show (J49 t p).f5 ∈ kids t p by rw [hk]; simp)
    obtain ⟨e1, q1⟩ := h1.head
    obtain ⟨e2, q2⟩ := h2.head
    have w1 := G.w _ (hin (J49 t p).f4 (by rw [q1]; simp))
    have w2 := G.w _ (hin (J49 t p).f5 (by rw [q2]; simp))
    refine ⟨by omega, ?_⟩
    rw [List.filter_cons, if_neg (by simpa using hl), List.filter_append, List.length_append]
    refine Nat.le_trans ?_ (Nat.add_le_add b1 b2)
    obtain ⟨m, hm⟩ : ∃ m, m = (n - rd s p).toNat := ⟨_, rfl⟩
    have c1 : m - 1 ≤ (n - rd s (J49 t p).f4).toNat := by omega
    have c2 : m - 1 ≤ (n - rd s (J49 t p).f5).toNat := by omega
    have d1 := Nat.pow_le_pow_right (n := 2) (by decide) c1
    have d2 := Nat.pow_le_pow_right (n := 2) (by decide) c2
    rw [← hm]
    cases m with
    | zero =>
      have p0 : (2 : Nat) ^ (0 - 1) = 1 := rfl
      have p1 : (2 : Nat) ^ 0 = 1 := rfl
      omega
    | succ m =>
      rw [Nat.pow_succ]
      rw [Nat.add_sub_cancel] at d1 d2
      omega
def pot (t : List S49) (s : List Int) (x : Int) : Int := 2 * rd s x + (if (J49 t x).f2 = 0 then 1 else 0)
theorem pot_le {t : List S49} {lp s : List Int} {n : Int} (G : Good t lp s n) {p : Int} (h : Tr t p lp) : ∀ x ∈ lp, pot t s x ≤ 2 * n := by
  intro x hx
  obtain ⟨lx, hlx, hsub⟩ := h.sub x hx
  have h1 := (good_leaves G hlx (fun y hy => hsub.subset hy)).1
  unfold pot
  by_cases e : (J49 t x).f2 = 0
  · rw [if_pos e]
    have hl : ¬ Leaf (J49 t x) := fun hl => by have := G.lw x hx hl; omega
    have hk : kids t x = [(J49 t x).f4, (J49 t x).f5] := by unfold kids; rw [if_neg hl]
    have hc : (J49 t x).f4 ∈ kids t x := by rw [hk]; simp
    have hcl := h.kid_mem x hx _ hc
    obtain ⟨lc, hlc, hsubc⟩ := h.sub _ hcl
    have h2 := (good_leaves G hlc (fun y hy => hsubc.subset hy)).1
    have h3 := G.st x hx _ hc
    have h4 := G.w _ hcl
    have h5 := G.red x hx _ hc
    omega
  · rw [if_neg e]; omega
theorem pot_step {t : List S49} {lp s : List Int} {n : Int} (G : Good t lp s n) {p : Int} (h : Tr t p lp) : ∀ x ∈ lp, ∀ c ∈ kids t x, pot t s x + 1 ≤ pot t s c := by
  intro x hx c hc
  have hcl := h.kid_mem x hx _ hc
  have h3 := G.st x hx _ hc
  have h4 := G.w _ hcl
  have h6 := G.w _ hx
  have h5 := G.red x hx _ hc
  unfold pot
  rw [h3]
  split <;> split <;> omega
theorem deep_le {t : List S49} {l0 : List Int} (S : Sound t l0) (φ : Int → Int) (B : Int) (hB : B ≤ 1000000) (h0 : ∀ x, InT t x → 0 ≤ φ x ∧ φ x ≤ B) (hk : ∀ x, InT t x → ∀ c ∈ kids t x, φ x + 1 ≤ φ c) {l : List Int} (hin : ∀ x ∈ l, InT t x) :
    ∀ d (i : Nat) (ds : List Int) (m r : Int), i + d = l.length → ds.length = t.length → m ≤ B → (∀ x, InT t x → 0 ≤ rd ds x ∧ rd ds x ≤ φ x) → deepGo t l d i ds m = some r → r ≤ B
  | 0, i, ds, m, r, _, _, hm, _, h => by
    simp only [deepGo, Option.some.injEq] at h
    omega
  | d + 1, i, ds, m, r, hd, hs, hm, hds, h => by
    have hi := hin _ (rd_mem (l := l) (j := i) (by omega))
    have hx := hds _ hi
    have hp := h0 _ hi
    have hmx : mx m (rd ds (rd l (i : Int))) ≤ B := by unfold mx; split <;> omega
    unfold deepGo at h
    rw [if_pos ⟨hi, by rw [hs]; exact hi.2⟩] at h
    by_cases hl : Leaf (J49 t (rd l (i : Int)))
    · rw [if_pos (show _ ∧ _ from hl)] at h
      exact deep_le S φ B hB h0 hk hin d (i + 1) ds _ r (by omega) hs hmx hds h
    · have hL := (S.left hi hl).1
      have hR := (S.right hi hl).1
      rw [if_neg (show ¬ (_ ∧ _) from hl), if_pos ⟨⟨hL.1, by rw [hs]; exact hL.2⟩, hR.1, by rw [hs]; exact hR.2⟩] at h
      have hkk : kids t (rd l (i : Int)) = [(J49 t (rd l (i : Int))).f4, (J49 t (rd l (i : Int))).f5] := by unfold kids; rw [if_neg hl]
      have s1 := hk _ hi _ (show (J49 t (rd l (i : Int))).f4 ∈ kids t (rd l (i : Int)) by rw [hkk]; simp)
      have s2 := hk _ hi _ (show (J49 t (rd l (i : Int))).f5 ∈ kids t (rd l (i : Int)) by rw [hkk]; simp)
      refine deep_le S φ B hB h0 hk hin d (i + 1) _ _ r (by omega) (by simp [hs]) hmx (fun x hx' => ?_) h
      have hx2 := hds x hx'
      rw [rd_set _ _ _ _ (by simp only [List.length_set]; exact ⟨hR.1, by rw [hs]; exact hR.2⟩) hx'.1, rd_set _ _ _ _ ⟨hL.1, by rw [hs]; exact hL.2⟩ hx'.1]
      have hwr : wrap64 (rd ds (rd l (i : Int)) + 1) = rd ds (rd l (i : Int)) + 1 := by unfold wrap64; omega
      rw [hwr]
      split
      · rename_i e; rw [e]; omega
      · split
        · rename_i e; rw [e]; omega
        · exact hx2
theorem lt_bitLen : ∀ (f x : Nat), x < 2 ^ f → x < 2 ^ Lib.bitLenAux f x
  | 0, x, h => by simp at h; subst h; simp [Lib.bitLenAux]
  | f + 1, x, h => by
    unfold Lib.bitLenAux
    split
    · rename_i e; subst e; simp
    · have := lt_bitLen f (x / 2) (by rw [Nat.pow_succ] at h; omega)
      rw [Nat.add_comm, Nat.pow_succ]
      omega
theorem bound_is (N : Nat) (hN : N ≤ 1000000) : Ev (fun _ => weigh_Bound.f (N : Int)) (2 * (Lib.bitLen (N + 1) : Int) + 4, 0) := by
  refine (Ev.const _).congr fun k => ?_
  have e1 : IntKind.u64.wrap (IntKind.u64.wrap (N : Int) + 1) = ((N + 1 : Nat) : Int) := by
    simp only [IntKind.wrap, IntKind.signed, IntKind.bits]
    simp
    omega
  have h64 : Lib.bitLen (N + 1) ≤ 64 := Lib.bitLenAux_le 64 (N + 1) 64 (by have h64 : (2 : Nat) ^ 64 = 18446744073709551616 := by decide
                                                                           rw [h64]; omega)
  unfold weigh_Bound.f
  rw [if_neg (by omega), e1]
  unfold bits_Len64.f
  rw [if_pos (by omega)]
  simp only [Option.bind_some, Int.toNat_natCast]
  congr 2
  unfold wrap64
  omega
theorem least_go (N : Nat) (s d : Int) (hs : 1 ≤ s) (hN : N ≤ 1000000) (h2 : 2 ^ (s - 1).toNat ≤ N) (hd : d ≤ 2 * s) (hs2 : s ≤ 1000000) : ∀ (f i : Nat), 1 ≤ i → (i : Int) + f = s → Ev (fun k => larchlaw17_WeighBound.l0 k s d (N : Int) ((2 ^ (i - 1) : Nat) : Int) (i : Int)) true
  | 0, i, h1, hi => by
    refine Ev.succ ((Ev.const _).congr fun k => ?_)
    have e : (s - 1).toNat = i - 1 := by omega
    rw [e] at h2
    simp only [larchlaw17_WeighBound.l0]
    rw [if_neg (by omega), if_pos (by omega), if_pos (by omega)]
    have : wrap64 (2 * s) = 2 * s := by unfold wrap64; omega
    rw [this, decide_eq_true hd]
  | f + 1, i, h1, hi => by
    have ih := least_go N s d hs hN h2 hd hs2 f (i + 1) (by omega) (by omega)
    have hle : 2 ^ (i - 1) ≤ N := Nat.le_trans (Nat.pow_le_pow_right (by decide) (by omega)) h2
    have hp : 2 ^ (i + 1 - 1) = 2 ^ (i - 1) * 2 := by
      have : i + 1 - 1 = (i - 1) + 1 := by omega
      rw [this, Nat.pow_succ]
    refine Ev.succ (ih.congr fun k => ?_)
    simp only [larchlaw17_WeighBound.l0]
    rw [if_pos (by omega), if_neg (by omega), wrap_succ (by omega), hp]
    congr 1
    unfold wrap64
    omega
end Go.Proofs.Ytmmjkebboonnkaa.P
/- P17 -/
namespace Go.Proofs.Ytmmjkebboonnkaa.P
open Go.RowKit Go.Proofs.YtmmjkebboonnkaaW.PrintWords Go.Proofs.YtmmjkebboonnkaaW.PrintLast Go.Proofs.YtmmjkebboonnkaaW.PrintMore
theorem even_is {t : List S49} {LS : List Int} (sT : Ev (fun k => weigh_Sums.f k t) (LS, 0)) (hl : LS.length ≤ 100000) : ∃ (n : Int) (ev : Bool), Ev (fun k => weigh_Even.f k t) (n, ev, 0) ∧ (ev = true → ∀ x ∈ LS, x = n) ∧ (LS = [] → n = 0 ∧ ev = true) := by
  by_cases hz : LS.length = 0
  · have : LS = [] := List.length_eq_zero_iff.1 hz
    subst this
    refine ⟨0, true, ?_, by simp, fun _ => ⟨rfl, rfl⟩⟩
    unfold weigh_Even.f
    refine Ev.bind sT ((Ev.const _).congr fun k => ?_)
    simp only [reduceIte]
    rw [if_pos (by simp)]
  · have h1 := wEven_go hl (by omega) LS.length 0 (by omega)
    unfold evenR at h1
    rw [List.drop_zero] at h1
    have fin : ∀ v, Ev (fun k => weigh_Even.l0 k LS LS (LS.length : Int) ((0 : Nat) : Int)) v → Ev (fun k => weigh_Even.f k t) v := by
      intro v hv
      unfold weigh_Even.f
      refine Ev.bind sT (Ev.congr (g := fun k => weigh_Even.l0 k LS LS (LS.length : Int) 0) hv fun k => ?_)
      simp only [reduceIte]
      rw [if_neg (by omega)]
    by_cases ha : (LS.all fun x => x == rd LS 0) = true
    · rw [if_pos ha] at h1
      refine ⟨rd LS 0, true, fin _ h1, fun _ x hx => ?_, fun h => absurd (by rw [h]; rfl) hz⟩
      have := List.all_eq_true.1 ha x hx
      simpa using this
    · rw [if_neg ha] at h1
      exact ⟨0, false, fin _ h1, fun h => by simp at h, fun h => absurd (by rw [h]; rfl) hz⟩
theorem soundB_all {t : List S49} {lp : List Int} : ∀ d (j : Nat), j + d = lp.length → soundB t lp d j = true → ∀ i : Nat, j ≤ i → i < lp.length → okAt t lp i = true
  | 0, j, hd, _, i, a, b => by omega
  | d + 1, j, hd, h, i, a, b => by
    simp only [soundB, Bool.and_eq_true] at h
    by_cases e : i = j
    · subst e; exact h.1
    · exact soundB_all d (j + 1) (by omega) h.2 i (by omega) b
theorem bound_tail {t : List S49} (ht : t.length ≤ 1048576) (l1 : List Int) (a2 a3 : Int) {v n r : Int} {L : List Int} {b : Bool} (hV : Ev (fun k => weigh_Violations.f k t) (v, 0)) (hE : Ev (fun k => weigh_Even.f k t) (n, true, 0)) (hF : Ev (fun k => weigh_Fits.f k t) (b, 0)) (hD : Ev (fun k => weigh_Deep.f k t) (r, 0)) (hL : Ev (fun k => larchref17_Leaves.f k t) L) (hll : L.length ≤ 100000)
    (h : v ≤ 0 → b = true ∧ ((L.length = 0 ∧ n = 0 ∧ r = 1) ∨ (0 < L.length ∧ 1 ≤ n ∧ 2 ^ (n - 1).toNat ≤ L.length ∧ r ≤ 2 * n ∧ n ≤ 1000000))) : Ev (fun k => larchlaw17_WeighBound.j0 k true false t l1 a2 a3) true := by
  refine Ev.succ (Ev.congr (g := fun k => (weigh_Violations.f k t).bind fun bt695 => (weigh_Even.f k t).bind fun bt700 => if bt695.2 = 0 then (if bt700.2.2 = 0 then larchlaw17_WeighBound.j1 k bt695.1 bt700.1 (!bt700.2.1) t l1 a2 a3 else larchlaw17_WeighBound.j1 k bt695.1 bt700.1 true t l1 a2 a3) else larchlaw17_WeighBound.j1 k bt695.1 bt700.1 true t l1 a2 a3) ?_ fun k => ?_)
  rotate_left
  · simp only [larchlaw17_WeighBound.j0, copied_eq t ht, Option.bind_some]
    rw [if_neg (by simp)]
  refine Ev.bind hV (Ev.bind hE ?_)
  simp only [if_true, Bool.not_true]
  by_cases hv : v > 0
  · refine Ev.succ ((Ev.const true).congr fun k => ?_)
    simp only [larchlaw17_WeighBound.j1]
    rw [if_neg (by simp), if_pos hv]
  obtain ⟨rfl, hc⟩ := h (by omega)
  refine Ev.succ (Ev.congr (g := fun k => (weigh_Fits.f k t).bind fun bt706 => (weigh_Deep.f k t).bind fun bt711 => (larchref17_Leaves.f k t).bind fun t713 => if bt706.2 = 0 then (if bt711.2 = 0 then (if bt706.1 = true then (if (t713.length : Int) = 0 then larchlaw17_WeighBound.j2 k n bt711.1 (t713.length : Int) (n != 0) else larchlaw17_WeighBound.j2 k n bt711.1 (t713.length : Int) false) else larchlaw17_WeighBound.j2 k n bt711.1 (t713.length : Int) true) else larchlaw17_WeighBound.j2 k n bt711.1 (t713.length : Int) true) else larchlaw17_WeighBound.j2 k n bt711.1 (t713.length : Int) true) ?_ fun k => ?_)
  rotate_left
  · simp only [larchlaw17_WeighBound.j1, copied_eq t ht, Option.bind_some]
    rw [if_neg (by simp), if_neg hv]
  refine Ev.bind hF (Ev.bind hD (Ev.bind hL ?_))
  simp only [if_true]
  rcases hc with ⟨h0, rfl, rfl⟩ | ⟨h0, h1, h2, h3, h4⟩
  · rw [h0]
    simp only [Int.natCast_zero, if_true]
    refine Ev.succ ((Ev.const true).congr fun k => ?_)
    simp only [larchlaw17_WeighBound.j2]
    rfl
  · have hne : ¬ ((L.length : Int) = 0) := by omega
    simp only [if_neg hne]
    have hg := least_go L.length n r h1 (by omega) h2 h3 h4 (n - 1).toNat 1 (by omega) (by omega)
    refine Ev.succ (Ev.congr (g := fun k => larchlaw17_WeighBound.l0 k n r (L.length : Int) 1 1) hg fun k => ?_)
    simp only [larchlaw17_WeighBound.j2]
    rw [if_neg (by simp), if_neg hne]
theorem bound_pure : WeighBoundPure := by
  intro t l1 a2 a3 ht hw _ _
  refine Ev.ex (f := fun k => larchlaw17_WeighBound.f k t l1 a2 a3) ?_
  unfold larchlaw17_WeighBound.f
  refine Ev.bind fixed_ev ?_
  simp only [if_true, copied_eq t ht, Option.bind_some]
  have no : ∀ e : Int, Ev (fun k => weigh_Sound.f k t) (false, e) → Ev (fun k => (weigh_Sound.f k t).bind fun bt690 => if bt690.2 = 0 then larchlaw17_WeighBound.j0 k bt690.1 (!bt690.1) t l1 a2 a3 else larchlaw17_WeighBound.j0 k bt690.1 true t l1 a2 a3) true := by
    intro e hS
    refine Ev.bind hS ?_
    have hj : Ev (fun k => larchlaw17_WeighBound.j0 k false true t l1 a2 a3) true := Ev.succ ((Ev.const true).congr fun k => by simp only [larchlaw17_WeighBound.j0]; rfl)
    by_cases e0 : e = 0
    · simp only [if_pos e0, Bool.not_false]; exact hj
    · simp only [if_neg e0]; exact hj
  rcases keys_both t ht with ⟨e, he, kT, kR⟩ | ⟨lp, par, l, S, cT, cR, kT, kR, hlp, hcase⟩
  · have hs : Ev (fun k => weigh_Sums.f k t) ([], e) := by
      unfold weigh_Sums.f
      refine Ev.bind kT ?_
      simp only [if_neg he]
      exact Ev.const _
    have hE : Ev (fun k => weigh_Even.f k t) (0, false, e) := by
      unfold weigh_Even.f
      refine Ev.bind hs ?_
      simp only [if_neg he]
      exact Ev.const _
    refine no e ?_
    unfold weigh_Sound.f
    refine Ev.bind hE ?_
    simp only [if_neg he]
    exact Ev.const _
  have h0 : InT t 0 := S.tr.inT
  have hin : ∀ x ∈ lp, InT t x := by
    rcases hcase with ⟨h, _⟩ | ⟨p, K, _⟩
    · subst h; intro x hx; simp at hx
    · exact K.tr.all
  obtain ⟨s, hs⟩ : ∃ s, s = psGo t lp lp.length 0 (List.replicate t.length 0) := ⟨_, rfl⟩
  obtain ⟨LS, hLS⟩ : ∃ LS, LS = leafSums t lp s lp.length 0 := ⟨_, rfl⟩
  have hwS : Ev (fun k => weigh_Sums.f k t) (LS, 0) := by
    rw [hLS, hs]
    refine wsums_of S (p := (J49 t (J49 t 0).f4).f4) kT hlp ?_
    rcases hcase with ⟨h, hc⟩ | ⟨p, K, hp, rR⟩
    · exact .inl h
    · have e := K.isP
      subst e
      exact .inr ⟨K.tr, K.sub.nodup S.nodup, hp⟩
  have hLSl : LS.length ≤ 100000 := by
    rw [hLS]
    exact Nat.le_trans (leafSums_le _ _ _ _ _) hlp
  have hLSe : LS = (lp.filter fun x => decide (Leaf (J49 t x))).map (rd s) := by
    rw [hLS, leafSums_eq t lp s lp.length 0 (by omega), List.drop_zero]
  obtain ⟨n, ev, hE, hall, hemp⟩ := even_is hwS hLSl
  have hSo : Ev (fun k => weigh_Sound.f k t) (if soundB t lp lp.length 0 = true then (ev, 0) else (false, 0)) := by
    unfold weigh_Sound.f
    refine Ev.bind hE ?_
    simp only [reduceIte]
    refine Ev.bind kT ?_
    exact wSound_go S hin hlp ev lp.length 0 (by omega)
  by_cases hsb : soundB t lp lp.length 0 = true
  rotate_left
  · rw [if_neg hsb] at hSo
    exact no 0 hSo
  rw [if_pos hsb] at hSo
  cases ev with
  | false => exact no 0 hSo
  | true =>
  refine Ev.bind hSo ?_
  simp only [if_true, Bool.not_true]
  -- violations
  rcases faults_both t ht with ⟨e, he, _, _, _, _, kR'⟩ | ⟨l', lp', rs, os, S', hin', hlp', cT', kR', hrs, hos, hk', wR, rR, wO, rO⟩
  · exfalso
    have := kR.uniq kR'
    simp only [Prod.mk.injEq] at this
    exact he this.2.symm
  have elp : lp' = lp := by
    have := kR.uniq kR'
    simp only [Prod.mk.injEq] at this
    exact this.1.symm
  subst elp
  have hmr : ∀ x, x ∈ rs ↔ x ∈ lp' ∧ isRed t lp' x = true := fun x => by rw [hrs]; exact mem_sel0
  have hmo : ∀ x, x ∈ os ↔ x ∈ lp' ∧ isOver t x = true := fun x => by rw [hos]; exact mem_sel0
  have hoin : ∀ x ∈ os, InT t x := fun x hx => hin x ((hmo x).1 hx).1
  have hol : os.length ≤ 100000 := by rw [hos]; exact Nat.le_trans (sel_le _ _ _ _) hlp
  have hrl : rs.length ≤ 100000 := by rw [hrs]; exact Nat.le_trans (sel_le _ _ _ _) hlp
  have hV := (viol_both hoin hol wR rR wO rO).1
  have hvs := vsum_ge (t := t) (os := os) (fun y hy => by
    have h1 := ((hmo y).1 hy).2
    have h2 := (S.fm y (hoin y hy)).1.2
    simp only [isOver, decide_eq_true_eq] at h1
    omega) hol os.length 0 (rs.length : Int) (by omega) (by omega) (by omega)
  -- height, bound
  obtain ⟨r, hd, hH⟩ := height_of S cT
  have hDeep : Ev (fun k => weigh_Deep.f k t) (r, 0) := by
    unfold weigh_Deep.f
    refine Ev.bind kT ?_
    simp only [reduceIte]
    exact Ev.bind hH (Ev.const _)
  have hFits : Ev (fun k => weigh_Fits.f k t) (decide (r ≤ 2 * (Lib.bitLen (LS.length + 1) : Int) + 4), 0) := by
    unfold weigh_Fits.f
    refine Ev.bind hwS ?_
    simp only [reduceIte]
    refine Ev.bind hH ?_
    exact Ev.bind (bound_is LS.length (by omega)) (Ev.const _)
  have hlv := leaves_of S
  have hlen : LS.length = (sel (lv t) l l.length 0).length := by
    rw [hLSe, List.length_map, sel_filter _ l l.length 0 (by omega)]
    simp only [List.drop_zero]
    have lv0 : ∀ x, Sen (J49 t x) → lv t x = false := fun x h => by unfold lv; simp [h.2.1]
    have lvn : ∀ x, ¬ Leaf (J49 t x) → lv t x = false := fun x h => by unfold lv; simp [h]
    rcases hcase with ⟨h, hc, hsn, _⟩ | ⟨p, K, hp, rR⟩
    · subst h
      have hL := (S.left h0 hc.1).1
      have hR := (S.right h0 hc.1).1
      have e : l = 0 :: ([(J49 t 0).f4] ++ [(J49 t 0).f5]) := S.tr.uniq (.node h0 hc.1 (.leaf hL hsn.1) (.leaf hR hc.2.2.2.1))
      rw [e]
      simp [lvn 0 hc.1, lv0 _ hsn, lv0 _ hc.2.2.2]
    · rw [K.shape S]
      have hf : lp'.filter (lv t) = lp'.filter fun x => decide (Leaf (J49 t x)) := List.filter_congr fun x hx => by unfold lv; simp [K.inf x hx]
      simp [lvn 0 K.c0.1, lvn _ K.c1.1, lv0 _ K.c1.2.2.2, lv0 _ K.c0.2.2.2, hf]
  refine bound_tail ht l1 a2 a3 hV hE hFits hDeep hlv (by omega) (fun hv => ?_)
  have hos0 : os = [] := List.length_eq_zero_iff.1 (by omega)
  have hrs0 : rs = [] := List.length_eq_zero_iff.1 (by omega)
  rw [← hlen]
  rcases hcase with ⟨h, hc, hsn, _⟩ | ⟨p, K, hp, rR⟩
  · subst h
    have hLS0 : LS = [] := by rw [hLSe]; rfl
    have hn := (hemp hLS0).1
    have hL := (S.left h0 hc.1).1
    have hR := (S.right h0 hc.1).1
    have hL1 := (S.left h0 hc.1).2
    have hR1 := (S.right h0 hc.1).2
    have hne : (J49 t 0).f4 ≠ (J49 t 0).f5 := by
      rcases (S.fm 0 h0).2.2 with hh | hh
      · exact absurd hh hc.1
      · exact hh.2.2.2
    have e : l = [0, (J49 t 0).f4, (J49 t 0).f5] := S.tr.uniq (.node h0 hc.1 (.leaf hL hsn.1) (.leaf hR hc.2.2.2.1))
    have hr : r = 1 := by
      rw [e] at hd
      generalize ha : (J49 t 0).f4 = a at *
      generalize hb : (J49 t 0).f5 = b at *
      have d0 : rd [0, a, b] ((0 : Nat) : Int) = 0 := rfl
      have d1 : rd [0, a, b] ((0 + 1 : Nat) : Int) = a := rfl
      have d2 : rd [0, a, b] ((0 + 1 + 1 : Nat) : Int) = b := rfl
      have hz : rd (List.replicate t.length 0) 0 = 0 := by
        unfold rd
        rw [List.getD_eq_getElem?_getD, List.getElem?_replicate]
        split <;> rfl
      have hlr : (List.replicate t.length (0 : Int)).length = t.length := by simp
      have w1 : wrap64 (0 + 1) = 1 := by unfold wrap64; omega
      have n0 : ¬ ((J49 t 0).f4 = -1 ∧ (J49 t 0).f5 = -1) := hc.1
      have la : (J49 t a).f4 = -1 ∧ (J49 t a).f5 = -1 := hsn.1
      have lb : (J49 t b).f4 = -1 ∧ (J49 t b).f5 = -1 := by have := hc.2.2.2.1; rw [hb] at this; exact this
      simp only [List.length_cons, List.length_nil, deepGo, d0, d1, d2, hz, w1, ha, hb] at hd
      rw [if_pos ⟨h0, by rw [hlr]; exact h0.2⟩, if_neg (by rw [ha, hb] at n0; exact n0), if_pos ⟨⟨hL.1, by rw [hlr]; exact hL.2⟩, hR.1, by rw [hlr]; exact hR.2⟩, if_pos ⟨hL, by simp only [List.length_set, hlr]; exact hL.2⟩, if_pos la, if_pos ⟨hR, by simp only [List.length_set, hlr]; exact hR.2⟩, if_pos lb] at hd
      rw [rd_set _ _ _ _ (by simp only [List.length_set, hlr]; exact hR) hL.1, if_neg hne, rd_set _ _ _ _ (by rw [hlr]; exact hL) hL.1, if_pos rfl, rd_set _ _ _ _ (by simp only [List.length_set, hlr]; exact hR) hR.1, if_pos rfl] at hd
      have : mx (mx (mx 0 0) 1) 1 = 1 := by decide
      rw [this, Option.some.injEq] at hd
      exact hd.symm
    subst hr
    refine ⟨?_, .inl ⟨by rw [hLS0]; rfl, hn, rfl⟩⟩
    rw [decide_eq_true_eq]
    omega
  · have hnod := K.sub.nodup S.nodup
    have P := ps_go S K.tr hnod hlp lp'.length 0 (List.replicate t.length 0) (by omega) (by simp) (fun h => by omega) (fun i hi => by omega)
    rw [← hs] at P
    have hlpos := K.tr.pos
    have hok := soundB_all lp'.length 0 (by omega) hsb
    have hp0 : rd lp' 0 = p := by
      obtain ⟨l', e⟩ := K.tr.head
      rw [e]
      rfl
    have hw : ∀ x ∈ lp', (J49 t x).f2 = 0 ∨ (J49 t x).f2 = 1 := by
      intro x hx
      have h1 : ¬ (isOver t x = true) := fun h => by
        have := (hmo x).2 ⟨hx, h⟩
        rw [hos0] at this
        simp at this
      have h2 := (S.fm x (hin x hx)).1.1
      simp only [isOver, decide_eq_true_eq] at h1
      omega
    have hred : ∀ q ∈ lp', ∀ c ∈ kids t q, ¬ ((J49 t q).f2 = 0 ∧ (J49 t c).f2 = 0) := by
      intro q hq c hc ⟨e1, e2⟩
      obtain ⟨i, hi, hqi⟩ := mem_rd hq
      have := (hmr c).2 ⟨K.tr.kid_mem q hq c hc, (isRed_iff t lp' c).2 ⟨i, hi, by rw [hqi]; exact hc, by rw [hqi]; exact e1, e2⟩⟩
      rw [hrs0] at this
      simp at this
    have hroot : (J49 t (rd lp' 0)).f2 = 1 := by
      have h1 := hok 0 (Nat.le_refl _) hlpos
      simp only [okAt, Bool.not_eq_true', Bool.or_eq_false_iff, Bool.and_eq_false_iff, decide_eq_false_iff_not] at h1
      have h2 : rd lp' ((0 : Nat) : Int) = rd lp' 0 := rfl
      rw [h2] at h1
      rcases h1.1 with h3 | h3
      · exact absurd trivial h3
      · exact Decidable.not_not.1 h3
    have hlw : ∀ x ∈ lp', Leaf (J49 t x) → (J49 t x).f2 = 1 := by
      intro x hx hl
      obtain ⟨i, hi, hxi⟩ := mem_rd hx
      have h1 := hok i (Nat.zero_le _) hi
      simp only [okAt, Bool.not_eq_true', Bool.or_eq_false_iff, Bool.and_eq_false_iff, decide_eq_false_iff_not] at h1
      rw [hxi] at h1
      rcases h1.2 with h2 | h2
      · exact absurd hl h2
      · rcases hw x hx with h3 | h3
        · exact absurd h3 h2
        · exact h3
    have hb := ps_bound S K.tr P hw hroot hlp
    have hbx : ∀ x ∈ lp', 1 ≤ rd s x ∧ rd s x ≤ 100000 := by
      intro x hx
      obtain ⟨i, hi, hxi⟩ := mem_rd hx
      have := hb i hi
      rw [hxi] at this
      omega
    have hst : ∀ q ∈ lp', ∀ c ∈ kids t q, rd s c = rd s q + (J49 t c).f2 := by
      intro q hq c hc
      obtain ⟨i, hi, hqi⟩ := mem_rd hq
      have h1 := P.k i hi c (by rw [hqi]; exact hc)
      rw [hqi] at h1
      have h2 := hbx q hq
      have h3 := hw c (K.tr.kid_mem q hq c hc)
      rw [h1]
      unfold wrap64
      omega
    have hlf : ∀ x ∈ lp', Leaf (J49 t x) → rd s x = n := by
      intro x hx hl
      refine hall rfl _ ?_
      rw [hLSe]
      exact List.mem_map.2 ⟨x, List.mem_filter.2 ⟨hx, by simpa using hl⟩, rfl⟩
    have G : Good t lp' s n := ⟨hw, hlw, hred, hst, hlf⟩
    have hgl := good_leaves G K.tr (fun x hx => hx)
    have hsp : rd s p = 1 := by
      have := P.z hlpos
      rw [hroot, hp0] at this
      exact this
    rw [hsp] at hgl
    obtain ⟨xl, hxl, hxlf⟩ := K.tr.some_leaf
    have hn1 : n ≤ 100000 := by
      have := hbx xl hxl
      rw [hlf xl hxl hxlf] at this
      exact this.2
    have hLn : LS.length = (lp'.filter fun x => decide (Leaf (J49 t x))).length := by rw [hLSe, List.length_map]
    rw [← hLn] at hgl
    -- the height
    have hr : r ≤ 2 * n := by
      have hsh := K.shape S
      have hnd := S.nodup
      have hL := (S.left h0 K.c0.1).1
      have hR := (S.right h0 K.c0.1).1
      have hR1 := (S.right hL K.c1.1).1
      obtain ⟨φ, hφ⟩ : ∃ φ : Int → Int, ∀ x, φ x = if x ∈ lp' then pot t s x else if x = 0 then 0 else if x = (J49 t 0).f4 then 1 else if x = (J49 t 0).f5 then 1 else 2 := ⟨_, fun _ => rfl⟩
      have hpt : ∀ x ∈ lp', 2 ≤ pot t s x ∧ pot t s x ≤ 2 * n := fun x hx => by
        refine ⟨?_, pot_le G K.tr x hx⟩
        have := (hbx x hx).1
        unfold pot
        split <;> omega
      have hcase : ∀ x, InT t x → x ∈ lp' ∨ x = 0 ∨ x = (J49 t 0).f4 ∨ x = (J49 t 0).f5 ∨ x = (J49 t (J49 t 0).f4).f5 := by
        intro x hx
        have := S.mem hx
        rw [hsh] at this
        simp at this
        rcases this with h | h | h | h | h
        · exact .inr (.inl h)
        · exact .inr (.inr (.inl h))
        · exact .inl h
        · exact .inr (.inr (.inr (.inr h)))
        · exact .inr (.inr (.inr (.inl h)))
      refine deep_le S φ (2 * n) (by omega) (fun x hx => ?_) (fun x hx c hc => ?_) S.tr.all l.length 0 (List.replicate t.length 0) 0 r (by omega) (by simp) (by omega) (fun x hx => ?_) hd
      · rw [hφ]
        have := hpt x
        by_cases e : x ∈ lp'
        · rw [if_pos e]; have := hpt x e; omega
        · rw [if_neg e]
          repeat' split
          all_goals omega
      · have hc1 := (S.kid hx hc).2
        by_cases e : x ∈ lp'
        · rw [hφ x, if_pos e, hφ c, if_pos (K.tr.kid_mem x e c hc)]
          exact pot_step G K.tr x e c hc
        · have hφc : 1 ≤ φ c := by
            rw [hφ]
            by_cases e2 : c ∈ lp'
            · rw [if_pos e2]; have := hpt c e2; omega
            · rw [if_neg e2, if_neg (by omega)]
              repeat' split
              all_goals omega
          rcases hcase x hx with h | h | h | h | h
          · exact absurd h e
          · rw [hφ x, if_neg e, if_pos h]; omega
          · have hx0 : x ≠ 0 := by
              have := (S.left h0 K.c0.1).2
              omega
            rw [hφ x, if_neg e, if_neg hx0, if_pos h]
            have hkx : kids t x = [(J49 t x).f4, (J49 t x).f5] := by unfold kids; rw [if_neg (by rw [h]; exact K.c1.1)]
            rw [hkx, h] at hc
            simp at hc
            rcases hc with rfl | rfl
            · rw [hφ, if_pos (by rw [← K.isP]; obtain ⟨l', e3⟩ := K.tr.head; rw [e3]; simp)]
              exact (hpt _ (by rw [← K.isP]; obtain ⟨l', e3⟩ := K.tr.head; rw [e3]; simp)).1
            · rw [hφ]
              by_cases e2 : (J49 t (J49 t 0).f4).f5 ∈ lp'
              · rw [if_pos e2]; exact (hpt _ e2).1
              · have hk0 : kids t 0 = [(J49 t 0).f4, (J49 t 0).f5] := by unfold kids; rw [if_neg K.c0.1]
                have hk1 : (J49 t (J49 t 0).f4).f5 ∈ kids t (J49 t 0).f4 := by unfold kids; rw [if_neg K.c1.1]; simp
                have no1 : ¬ (J49 t (J49 t 0).f4).f5 ∈ kids t 0 := fun hm => by
                  have := S.one hL h0 hk1 hm
                  have := (S.left h0 K.c0.1).2
                  omega
                rw [hk0] at no1
                rw [if_neg e2, if_neg (by omega), if_neg (fun e4 => no1 (by rw [e4]; simp)), if_neg (fun e4 => no1 (by rw [e4]; simp))]
                decide
          · have : kids t x = [] := by unfold kids; rw [h, if_pos K.c0.2.2.2.1]
            rw [this] at hc
            simp at hc
          · have : kids t x = [] := by unfold kids; rw [h, if_pos K.c1.2.2.2.1]
            rw [this] at hc
            simp at hc
      · have hz : rd (List.replicate t.length 0) x = 0 := by
          unfold rd
          rw [List.getD_eq_getElem?_getD, List.getElem?_replicate]
          split <;> rfl
        rw [hz, hφ]
        by_cases e : x ∈ lp'
        · rw [if_pos e]; have := hpt x e; omega
        · rw [if_neg e]
          repeat' split
          all_goals omega
    have hpw : 2 ^ (n - 1).toNat < 2 ^ Lib.bitLen (LS.length + 1) := by
      have h1 := lt_bitLen 64 (LS.length + 1) (by
        have h64 : (2 : Nat) ^ 64 = 18446744073709551616 := by decide
        rw [h64]; omega)
      exact Nat.lt_trans (Nat.lt_succ_of_le hgl.2) h1
    have hlt := (Nat.pow_lt_pow_iff_right (a := 2) (by decide)).1 hpw
    have hL0 : 0 < LS.length := Nat.lt_of_lt_of_le (Nat.pow_pos (by decide)) hgl.2
    refine ⟨?_, .inr ⟨hL0, hgl.1, hgl.2, hr, by omega⟩⟩
    rw [decide_eq_true_eq]
    omega
theorem weighBound_holds : Rows.WeighBoundUptoSaid := WeighBound_of bound_pure
end Go.Proofs.Ytmmjkebboonnkaa.P
#print axioms Go.Proofs.Ytmmjkebboonnkaa.P.weighBound_holds
