/- P.weighMemory_holds, part 25 of 28: the contracts of the Go functions that the law calls, its own walk, and its plain law, for every input that the statement speaks of. -/
import Derived.Test.YtmmjkebboonnkaaMMe22
import Derived.Test.YtmmjkebboonnkaaMMe23
import Derived.Test.YtmmjkebboonnkaaMMe21
import Derived.Test.YtmmjkebboonnkaaMMe10
import Derived.Test.YtmmjkebboonnkaaMMe13
import Derived.Test.YtmmjkebboonnkaaMMe15
import Derived.Test.YtmmjkebboonnkaaMMe4
set_option linter.unusedVariables false
set_option linter.unusedSimpArgs false
/- P12 -/
namespace Go.Proofs.Ytmmjkebboonnkaa.P
open Go.RowKit Go.Proofs.YtmmjkebboonnkaaW.PrintWords Go.Proofs.YtmmjkebboonnkaaW.PrintLast Go.Proofs.YtmmjkebboonnkaaW.PrintMore
theorem viol_both {t : List S49} {rs os : List Int} (ho : ∀ x ∈ os, InT t x) (hl : os.length ≤ 100000) (wR : Ev (fun k => weigh_Reds.f k t) (rs, 0)) (rR : Ev (fun k => larchref17_Reds.f k t) (rs, 0)) (wO : Ev (fun k => weigh_Overs.f k t) (os, 0)) (rO : Ev (fun k => larchref17_Overs.f k t) (os, 0)) :
    Ev (fun k => weigh_Violations.f k t) (vsum t os os.length 0 rs.length, 0) ∧ Ev (fun k => larchref17_Violations.f k t) (vsum t os os.length 0 rs.length, 0) := by
  constructor
  · unfold weigh_Violations.f
    refine Ev.bind wR ?_
    simp only [reduceIte]
    exact Ev.bind wO (wViol_go ho hl os.length 0 _ (by omega))
  · unfold larchref17_Violations.f
    refine Ev.bind rR ?_
    simp only [reduceIte]
    exact Ev.bind rO (rViol_go ho hl os.length 0 _ (by omega))
end Go.Proofs.Ytmmjkebboonnkaa.P
/- P13 -/
namespace Go.Proofs.Ytmmjkebboonnkaa.P
open Go.RowKit Go.Proofs.YtmmjkebboonnkaaW.PrintWords Go.Proofs.YtmmjkebboonnkaaW.PrintLast Go.Proofs.YtmmjkebboonnkaaW.PrintMore
theorem drop_cons_ {l : List Int} {j : Nat} (h : j < l.length) : l.drop j = rd l (j : Int) :: l.drop (j + 1) := by
  rw [List.drop_eq_getElem_cons h, rd_nat, List.getElem?_eq_getElem h]
  rfl
def evenR (s : List Int) (j : Nat) : Int × Bool × Int := if (s.drop j).all (fun x => x == rd s 0) then (rd s 0, true, 0) else (0, false, 0)
theorem wEven_go {s : List Int} (hl : s.length ≤ 100000) (h0 : 0 < s.length) : ∀ d (j : Nat), j + d = s.length → Ev (fun k => weigh_Even.l0 k s s (s.length : Int) (j : Int)) (evenR s j)
  | 0, j, hd => by
    unfold evenR
    rw [List.drop_eq_nil_of_le (by omega)]
    refine Ev.succ ((Ev.const _).congr fun k => ?_)
    simp only [weigh_Even.l0]
    rw [if_neg (by omega), if_pos (by omega)]
    rfl
  | d + 1, j, hd => by
    have ih := wEven_go hl h0 d (j + 1) (by omega)
    unfold evenR at ih ⊢
    rw [drop_cons_ (by omega), List.all_cons]
    by_cases e : rd s (j : Int) = rd s 0
    · refine Ev.succ (ih.congr' (by simp [e]) fun k => ?_)
      simp only [weigh_Even.l0]
      rw [if_pos (by omega), if_pos (by omega), if_pos (by omega), if_pos (by omega), if_pos e, wrap_succ (by omega)]
    · refine Ev.succ ((Ev.const (0, false, 0)).congr' (by simp [e]) fun k => ?_)
      simp only [weigh_Even.l0]
      rw [if_pos (by omega), if_pos (by omega), if_pos (by omega), if_pos (by omega), if_neg e]
theorem rEven_go {s : List Int} (hl : s.length ≤ 100000) (h0 : 0 < s.length) : ∀ d (j : Nat), j + d = s.length → Ev (fun k => larchref17_Even.l0 k s (j : Int)) (evenR s j)
  | 0, j, hd => by
    unfold evenR
    rw [List.drop_eq_nil_of_le (by omega)]
    refine Ev.succ ((Ev.const _).congr fun k => ?_)
    simp only [larchref17_Even.l0]
    rw [if_neg (by omega), if_neg (by omega), if_pos (by omega)]
    rfl
  | d + 1, j, hd => by
    have ih := rEven_go hl h0 d (j + 1) (by omega)
    unfold evenR at ih ⊢
    rw [drop_cons_ (by omega), List.all_cons]
    by_cases e : rd s (j : Int) = rd s 0
    · refine Ev.succ (ih.congr' (by simp [e]) fun k => ?_)
      simp only [larchref17_Even.l0]
      rw [if_pos (by omega), if_pos (by omega), if_pos (by omega), if_pos e, wrap_succ (by omega)]
    · refine Ev.succ ((Ev.const (0, false, 0)).congr' (by simp [e]) fun k => ?_)
      simp only [larchref17_Even.l0]
      rw [if_pos (by omega), if_pos (by omega), if_pos (by omega), if_neg e]
theorem even_both (t : List S49) (ht : t.length ≤ 1048576) : ∃ (n : Int) (b : Bool) (e : Int), Ev (fun k => weigh_Even.f k t) (n, b, e) ∧ Ev (fun k => larchref17_Even.f k t) (n, b, e) ∧ (e ≠ 0 → b = false ∧ Ev (fun k => larchref17_keys.f k t) ([], e)) := by
  obtain ⟨s, e, sT, sR, hl, he⟩ := sums_both t ht
  by_cases e0 : e = 0
  rotate_left
  · refine ⟨0, false, e, ?_, ?_, fun h => ⟨rfl, (he h).2⟩⟩
    · unfold weigh_Even.f
      refine Ev.bind sT ?_
      simp only [if_neg e0]
      exact Ev.const _
    · unfold larchref17_Even.f
      refine Ev.bind sR ?_
      simp only [if_neg e0]
      exact Ev.const _
  subst e0
  by_cases hz : s.length = 0
  · refine ⟨0, true, 0, ?_, ?_, fun h => absurd rfl h⟩
    · unfold weigh_Even.f
      refine Ev.bind sT ((Ev.const _).congr fun k => ?_)
      simp only [reduceIte]
      rw [if_pos (by omega)]
    · unfold larchref17_Even.f
      refine Ev.bind sR ?_
      simp only [reduceIte]
      refine Ev.succ ((Ev.const _).congr fun k => ?_)
      simp only [larchref17_Even.l0]
      rw [if_neg (by omega), if_pos (by omega)]
  · have h1 := wEven_go hl (by omega) s.length 0 (by omega)
    have h2 := rEven_go hl (by omega) (s.length - 1) 1 (by omega)
    have heq : evenR s 0 = evenR s 1 := by
      unfold evenR
      rw [drop_cons_ (l := s) (j := 0) (by omega), List.all_cons]
      simp
    obtain ⟨n, b, e', hr⟩ : ∃ n b e', evenR s 0 = (n, b, e') := ⟨_, _, _, rfl⟩
    have he' : e' = 0 := by
      unfold evenR at hr
      split at hr <;> simp at hr <;> exact hr.2.2.symm
    subst he'
    rw [hr] at h1
    rw [← heq, hr] at h2
    refine ⟨n, b, 0, ?_, ?_, fun h => absurd rfl h⟩
    · unfold weigh_Even.f
      refine Ev.bind sT (Ev.congr (g := fun k => weigh_Even.l0 k s s (s.length : Int) 0) h1 fun k => ?_)
      simp only [reduceIte]
      rw [if_neg (by omega)]
    · unfold larchref17_Even.f
      refine Ev.bind sR ?_
      simp only [reduceIte]
      exact h2
def okAt (t : List S49) (lp : List Int) (i : Nat) : Bool := !((decide (i = 0) && decide ((J49 t (rd lp (i : Int))).f2 ≠ 1)) || (decide (Leaf (J49 t (rd lp (i : Int)))) && decide ((J49 t (rd lp (i : Int))).f2 = 0)))
def soundB (t : List S49) (lp : List Int) : Nat → Nat → Bool
  | 0, _ => true
  | d + 1, j => okAt t lp j && soundB t lp d (j + 1)
theorem wSound_go {t : List S49} {l : List Int} (S : Sound t l) {lp : List Int} (hin : ∀ x ∈ lp, InT t x) (hl : lp.length ≤ 100000) (b : Bool) : ∀ d (j : Nat), j + d = lp.length → Ev (fun k => weigh_Sound.l0 k t b lp (lp.length : Int) (j : Int)) (if soundB t lp d j = true then (b, 0) else (false, 0))
  | 0, j, hd => by
    refine Ev.succ ((Ev.const _).congr fun k => ?_)
    simp only [weigh_Sound.l0, soundB, if_true]
    rw [if_neg (by omega)]
  | d + 1, j, hd => by
    have ih := wSound_go S hin hl b d (j + 1) (by omega)
    have hi := hin _ (rd_mem (l := lp) (j := j) (by omega))
    have hneg := S.neg _ hi
    obtain ⟨p0, p1⟩ := hi
    have hleaf : Leaf (J49 t (rd lp (j : Int))) ↔ (J49 t (rd lp (j : Int))).f4 < 0 := by
      constructor
      · intro h; have := h.1; omega
      · intro h
        refine Decidable.byContradiction fun hh => ?_
        have := hneg.2 hh
        omega
    simp only [soundB]
    by_cases ok : okAt t lp j = true
    · simp only [ok, Bool.true_and]
      refine Ev.succ (ih.congr fun k => ?_)
      simp only [okAt, Bool.not_eq_true', Bool.or_eq_false_iff, Bool.and_eq_false_iff, decide_eq_false_iff_not, hleaf] at ok
      simp only [weigh_Sound.l0]
      rw [if_pos (by omega), if_pos (by omega), if_pos (by omega), wrap_succ (by omega)]
      by_cases e : j = 0
      · subst e
        rw [if_pos (by rfl), if_pos p0, if_pos p1, if_pos (by omega)]
        by_cases hlf : (J49 t (rd lp ((0 : Nat) : Int))).f4 < 0
        · rw [if_pos hlf, if_neg (by omega)]
        · rw [if_neg hlf]
      · rw [if_neg (by omega), if_pos p0, if_pos p1]
        by_cases hlf : (J49 t (rd lp (j : Int))).f4 < 0
        · rw [if_pos hlf, if_neg (by omega)]
        · rw [if_neg hlf]
    · have ok' : okAt t lp j = false := by simpa using ok
      simp only [ok', Bool.false_and, Bool.false_eq_true, if_false]
      refine Ev.succ ((Ev.const (false, 0)).congr fun k => ?_)
      simp only [okAt, Bool.not_eq_false', Bool.or_eq_true, Bool.and_eq_true, decide_eq_true_eq, hleaf] at ok'
      simp only [weigh_Sound.l0]
      rw [if_pos (by omega), if_pos (by omega), if_pos (by omega)]
      by_cases e : j = 0
      · subst e
        rw [if_pos (by rfl), if_pos p0, if_pos p1]
        by_cases hw : (J49 t (rd lp ((0 : Nat) : Int))).f2 = 1
        · rw [if_pos hw, if_pos (by omega), if_pos (by omega)]
        · rw [if_neg hw]
      · rw [if_neg (by omega), if_pos p0, if_pos p1, if_pos (by omega), if_pos (by omega)]
theorem rSound_go {t : List S49} {l : List Int} (S : Sound t l) {lp : List Int} (hin : ∀ x ∈ lp, InT t x) (hl : lp.length ≤ 100000) : ∀ d (j : Nat), j + d = lp.length → Ev (fun k => larchref17_Sound.l0 k t lp (j : Int)) (if soundB t lp d j = true then (true, 0) else (false, 0))
  | 0, j, hd => by
    refine Ev.succ ((Ev.const _).congr fun k => ?_)
    simp only [larchref17_Sound.l0, soundB, if_true]
    rw [if_neg (by omega)]
  | d + 1, j, hd => by
    have ih := rSound_go S hin hl d (j + 1) (by omega)
    have hi := hin _ (rd_mem (l := lp) (j := j) (by omega))
    have hw0 := (S.fm _ hi).1.1
    obtain ⟨p0, p1⟩ := hi
    simp only [soundB]
    by_cases ok : okAt t lp j = true
    · simp only [ok, Bool.true_and]
      refine Ev.succ (ih.congr fun k => ?_)
      simp only [okAt, Bool.not_eq_true', Bool.or_eq_false_iff, Bool.and_eq_false_iff, decide_eq_false_iff_not] at ok
      simp only [larchref17_Sound.l0, leafF, Option.bind_some, decide_eq_true_eq]
      rw [if_pos (by omega), wrap_succ (by omega)]
      by_cases hlf : Leaf (J49 t (rd lp (j : Int)))
      · have hw : ¬ ((J49 t (rd lp (j : Int))).f2 = 0) := by
          rcases ok.2 with h | h
          · exact absurd hlf h
          · exact h
        by_cases e : j = 0
        · subst e
          rw [if_pos (by rfl), if_pos (by omega), if_pos p0, if_pos p1, if_pos (by omega), if_pos hlf, if_neg (by omega)]
        · rw [if_neg (by omega), if_pos (by omega), if_pos p0, if_pos p1, if_pos hlf, if_neg (by omega)]
      · by_cases e : j = 0
        · subst e
          rw [if_pos (by rfl), if_pos (by omega), if_pos p0, if_pos p1, if_pos (by omega), if_neg hlf]
        · rw [if_neg (by omega), if_pos (by omega), if_pos p0, if_pos p1, if_neg hlf]
    · have ok' : okAt t lp j = false := by simpa using ok
      simp only [ok', Bool.false_and, Bool.false_eq_true, if_false]
      refine Ev.succ ((Ev.const (false, 0)).congr fun k => ?_)
      simp only [okAt, Bool.not_eq_false', Bool.or_eq_true, Bool.and_eq_true, decide_eq_true_eq] at ok'
      simp only [larchref17_Sound.l0, leafF, Option.bind_some, decide_eq_true_eq]
      rw [if_pos (by omega)]
      by_cases e : j = 0
      · subst e
        rw [if_pos (by rfl), if_pos (by omega), if_pos p0, if_pos p1]
        by_cases hw : (J49 t (rd lp ((0 : Nat) : Int))).f2 = 1
        · have h2 : Leaf (J49 t (rd lp ((0 : Nat) : Int))) ∧ (J49 t (rd lp ((0 : Nat) : Int))).f2 = 0 := by
            rcases ok' with h | h
            · exact absurd hw h.2
            · exact h
          omega
        · rw [if_neg hw]
      · have h2 : Leaf (J49 t (rd lp (j : Int))) ∧ (J49 t (rd lp (j : Int))).f2 = 0 := by
          rcases ok' with h | h
          · exact absurd h.1 e
          · exact h
        rw [if_neg (by omega), if_pos (by omega), if_pos p0, if_pos p1, if_pos h2.1, if_pos (by omega)]
end Go.Proofs.Ytmmjkebboonnkaa.P
/- P14 -/
namespace Go.Proofs.Ytmmjkebboonnkaa.P
open Go.RowKit Go.Proofs.YtmmjkebboonnkaaW.PrintWords Go.Proofs.YtmmjkebboonnkaaW.PrintLast Go.Proofs.YtmmjkebboonnkaaW.PrintMore
theorem sound_both (t : List S49) (ht : t.length ≤ 1048576) : ∃ (b : Bool) (e : Int), Ev (fun k => weigh_Sound.f k t) (b, e) ∧ Ev (fun k => larchref17_Sound.f k t) (b, e) := by
  obtain ⟨n, ev, e, eT, eR, hev⟩ := even_both t ht
  have j0t : ∀ v, v = (false, e) → Ev (fun k => larchref17_Sound.j0 k t e true) v := fun v hv => Ev.succ ((Ev.const _).congr' hv fun k => by simp only [larchref17_Sound.j0, if_true])
  by_cases e0 : e = 0
  rotate_left
  · refine ⟨false, e, ?_, ?_⟩
    · unfold weigh_Sound.f
      refine Ev.bind eT ?_
      simp only [if_neg e0]
      exact Ev.const _
    · unfold larchref17_Sound.f
      refine Ev.bind eR ?_
      simp only [if_neg e0]
      exact j0t _ rfl
  subst e0
  rcases keys_both t ht with ⟨e', he', kT, kR⟩ | ⟨lp, par, l, S, cT, cR, kT, kR, hlp, hcase⟩
  · exfalso
    have hs : Ev (fun k => weigh_Sums.f k t) ([], e') := by
      unfold weigh_Sums.f
      refine Ev.bind kT ?_
      simp only [if_neg he']
      exact Ev.const _
    have : Ev (fun k => weigh_Even.f k t) (0, false, e') := by
      unfold weigh_Even.f
      refine Ev.bind hs ?_
      simp only [if_neg he']
      exact Ev.const _
    have := eT.uniq this
    simp only [Prod.mk.injEq] at this
    exact he' this.2.2.symm
  · have hin : ∀ x ∈ lp, InT t x := by
      rcases hcase with ⟨h, _⟩ | ⟨p, K, _⟩
      · subst h; intro x hx; simp at hx
      · exact K.tr.all
    have hT : Ev (fun k => weigh_Sound.f k t) (if soundB t lp lp.length 0 = true then (ev, 0) else (false, 0)) := by
      unfold weigh_Sound.f
      refine Ev.bind eT ?_
      simp only [reduceIte]
      refine Ev.bind kT ?_
      exact wSound_go S hin hlp ev lp.length 0 (by omega)
    cases ev with
    | false =>
      refine ⟨false, 0, hT.congr' (by split <;> rfl) fun k => rfl, ?_⟩
      unfold larchref17_Sound.f
      refine Ev.bind eR ?_
      simp only [reduceIte, Bool.not_false]
      exact j0t _ rfl
    | true =>
      obtain ⟨b, hb⟩ : ∃ b : Bool, (if soundB t lp lp.length 0 = true then (true, (0 : Int)) else (false, 0)) = (b, 0) := by
        split
        · exact ⟨true, rfl⟩
        · exact ⟨false, rfl⟩
      rw [hb] at hT
      refine ⟨b, 0, hT, ?_⟩
      unfold larchref17_Sound.f
      refine Ev.bind eR ?_
      simp only [reduceIte, Bool.not_true]
      refine Ev.succ (Ev.congr (g := fun k => (larchref17_keys.f k t).bind fun bt => larchref17_Sound.l0 k t bt.1 0) (Ev.bind kR ?_) fun k => ?_)
      · rw [← hb]
        exact rSound_go S hin hlp lp.length 0 (by omega)
      · simp only [larchref17_Sound.j0]
        rw [if_neg (by simp)]
theorem deep_some {t : List S49} {l0 : List Int} (S : Sound t l0) {l : List Int} (hin : ∀ x ∈ l, InT t x) : ∀ d (i : Nat) (ds : List Int) (m : Int), i + d = l.length → ds.length = t.length → ∃ r, deepGo t l d i ds m = some r
  | 0, i, ds, m, _, _ => ⟨m, rfl⟩
  | d + 1, i, ds, m, hd, hs => by
    have hi := hin _ (rd_mem (l := l) (j := i) (by omega))
    unfold deepGo
    rw [if_pos ⟨hi, by rw [hs]; exact hi.2⟩]
    by_cases hl : Leaf (J49 t (rd l (i : Int)))
    · rw [if_pos (show _ ∧ _ from hl)]
      exact deep_some S hin d (i + 1) ds _ (by omega) hs
    · have hL := (S.left hi hl).1
      have hR := (S.right hi hl).1
      rw [if_neg (show ¬ (_ ∧ _) from hl), if_pos ⟨⟨hL.1, by rw [hs]; exact hL.2⟩, hR.1, by rw [hs]; exact hR.2⟩]
      exact deep_some S hin d (i + 1) _ _ (by omega) (by simp [hs])
theorem height_go {t : List S49} {l : List Int} (hl : l.length ≤ 100000) {r : Int} : ∀ d (i : Nat) (ds : List Int) (m : Int), i + d = l.length → deepGo t l d i ds m = some r → Ev (fun k => table_Height.l0 k t ds m l (l.length : Int) (i : Int)) (r, 0)
  | 0, i, ds, m, hd, h => by
    simp only [deepGo, Option.some.injEq] at h
    subst h
    refine Ev.succ ((Ev.const _).congr fun k => ?_)
    simp only [table_Height.l0]
    rw [if_neg (by omega)]
  | d + 1, i, ds, m, hd, h => by
    simp only [deepGo] at h
    split at h
    rotate_left
    · simp at h
    rename_i hc
    obtain ⟨⟨p0, p1⟩, p2⟩ := hc
    by_cases hlf : Leaf (J49 t (rd l (i : Int)))
    · rw [if_pos (show _ ∧ _ from hlf)] at h
      refine Ev.succ ((height_go hl d (i + 1) ds _ (by omega) h).congr fun k => ?_)
      simp only [table_Height.l0, isLeafF, Option.bind_some, decide_eq_true_eq]
      rw [if_pos (by omega), if_pos (by omega), if_pos (by omega), if_pos p0, if_pos p2, if_pos p1, if_pos hlf, wrap_succ (by omega)]
    · rw [if_neg (show ¬ (_ ∧ _) from hlf)] at h
      split at h
      rotate_left
      · simp at h
      rename_i hk
      obtain ⟨⟨a0, a1⟩, b0, b1⟩ := hk
      refine Ev.succ ((height_go hl d (i + 1) _ _ (by omega) h).congr fun k => ?_)
      simp only [table_Height.l0, isLeafF, Option.bind_some, decide_eq_true_eq]
      rw [if_pos (by omega), if_pos (by omega), if_pos (by omega), if_pos p0, if_pos p2, if_pos p1, if_neg hlf, if_pos a0, if_pos a1, if_pos b0, if_pos b1, wrap_succ (by omega)]
theorem height_of {t : List S49} {l : List Int} (S : Sound t l) (cT : Ev (fun k => table_Check.f k t) 0) : ∃ r : Int, deepGo t l l.length 0 (List.replicate t.length 0) 0 = some r ∧ Ev (fun k => table_Height.f k t) (r, 0) := by
  have h1 := S.len
  have h2 := S.small
  obtain ⟨r, hr⟩ := deep_some S S.tr.all l.length 0 (List.replicate t.length 0) 0 (by omega) (by simp)
  refine ⟨r, hr, ?_⟩
  unfold table_Height.f
  refine Ev.bind cT ?_
  refine Ev.congr (g := fun k => (table_order.f k t 0).bind fun t653 => table_Height.l0 k t (List.replicate t.length 0) 0 t653 (t653.length : Int) 0) ?_ fun k => ?_
  · exact Ev.bind (order_of S.tr S.nodup (by omega) (by omega)) (height_go (by omega) l.length 0 _ 0 (by omega) hr)
  · rw [if_pos rfl, if_pos (by omega), if_pos (by omega)]
    rfl
theorem rBound_go : ∀ (f y b : Nat), y < 2 ^ f → f ≤ 64 → b + f ≤ 64 → Ev (fun k => larchref17_Bound.l0 k (b : Int) (y : Int)) (wrap64 (wrap64 (2 * ((b + Lib.bitLenAux f y : Nat) : Int)) + 4), 0)
  | 0, y, b, hy, _, _ => by
    have : y = 0 := by simpa using hy
    subst this
    refine Ev.succ ((Ev.const _).congr fun k => ?_)
    simp only [larchref17_Bound.l0]
    rw [if_neg (by omega)]
    rfl
  | f + 1, y, b, hy, hf, hb => by
    by_cases hz : y = 0
    · subst hz
      refine Ev.succ ((Ev.const _).congr fun k => ?_)
      simp only [larchref17_Bound.l0, Lib.bitLenAux]
      rw [if_neg (by omega)]
      rfl
    · have hy2 : y / 2 < 2 ^ f := by rw [Nat.pow_succ] at hy; omega
      have hle : 2 ^ (f + 1) ≤ 2 ^ 64 := Nat.pow_le_pow_right (by decide) hf
      have ih := rBound_go f (y / 2) (b + 1) hy2 (by omega) (by omega)
      refine Ev.succ (ih.congr' ?_ fun k => ?_)
      · simp only [Lib.bitLenAux]
        rw [if_neg hz, show b + (1 + Lib.bitLenAux f (y / 2)) = b + 1 + Lib.bitLenAux f (y / 2) by omega]
      · simp only [larchref17_Bound.l0]
        rw [if_pos (by omega)]
        have e1 : wrap64 ((b : Int) + 1) = ((b + 1 : Nat) : Int) := by unfold wrap64; omega
        have e2 : IntKind.u64.wrap (Int.tdiv (y : Int) 2) = ((y / 2 : Nat) : Int) := by
          have e3 : Int.tdiv (y : Int) 2 = ((y / 2 : Nat) : Int) := by
            rw [Int.tdiv_eq_ediv_of_nonneg (by omega)]
            omega
          rw [e3]
          simp only [IntKind.wrap, IntKind.signed, IntKind.bits]
          have h64 : (2 : Nat) ^ 64 = 18446744073709551616 := by decide
          rw [h64] at hle
          simp
          omega
        rw [e1, e2]
end Go.Proofs.Ytmmjkebboonnkaa.P
/- P15 -/
namespace Go.Proofs.Ytmmjkebboonnkaa.P
open Go.RowKit Go.Proofs.YtmmjkebboonnkaaW.PrintWords Go.Proofs.YtmmjkebboonnkaaW.PrintLast Go.Proofs.YtmmjkebboonnkaaW.PrintMore
theorem deep_both (t : List S49) (ht : t.length ≤ 1048576) : ∃ n e : Int, Ev (fun k => weigh_Deep.f k t) (n, e) ∧ Ev (fun k => larchref17_Deep.f k t) (n, e) ∧ (e = 0 → Ev (fun k => table_Height.f k t) (n, 0)) ∧ (e ≠ 0 → Ev (fun k => larchref17_keys.f k t) ([], e)) := by
  rcases keys_both t ht with ⟨e, he, kT, kR⟩ | ⟨lp, par, l, S, cT, cR, kT, kR, hlp, hcase⟩
  · refine ⟨0, e, ?_, ?_, fun h => absurd h he, fun _ => kR⟩
    · unfold weigh_Deep.f
      refine Ev.bind kT ?_
      simp only [if_neg he]
      exact Ev.const _
    · unfold larchref17_Deep.f
      refine Ev.bind kR ?_
      simp only [if_neg he]
      exact Ev.const _
  · have h1 := S.len
    have h2 := S.small
    obtain ⟨r, hd, hH⟩ := height_of S cT
    refine ⟨r, 0, ?_, ?_, fun _ => hH, fun h => absurd rfl h⟩
    · unfold weigh_Deep.f
      refine Ev.bind kT ?_
      simp only [reduceIte]
      exact Ev.bind hH (Ev.const _)
    · unfold larchref17_Deep.f
      refine Ev.bind kR ?_
      simp only [reduceIte]
      refine Ev.bind (Order_of S.tr (by omega)) ((Ev.const _).congr fun k => ?_)
      rw [if_pos (by omega), hd]
      rfl
theorem bound_both (n : Int) (hn : n ≤ 9223372036854775807) : ∃ b e : Int, Ev (fun _ => weigh_Bound.f n) (b, e) ∧ Ev (fun k => larchref17_Bound.f k n) (b, e) ∧ (0 ≤ n → e = 0) := by
  by_cases h : n < 0
  · refine ⟨0, 1, (Ev.const _).congr fun k => ?_, (Ev.const _).congr fun k => ?_, fun h0 => by omega⟩
    · unfold weigh_Bound.f; rw [if_pos h]
    · unfold larchref17_Bound.f; rw [if_pos h]
  · have e1 : IntKind.u64.wrap (IntKind.u64.wrap n + 1) = ((n.toNat + 1 : Nat) : Int) := by
      simp only [IntKind.wrap, IntKind.signed, IntKind.bits]
      simp
      omega
    have hy : n.toNat + 1 < 2 ^ 64 := by
      have h64 : (2 : Nat) ^ 64 = 18446744073709551616 := by decide
      rw [h64]; omega
    refine ⟨wrap64 (wrap64 (2 * (Lib.bitLen (n.toNat + 1) : Int)) + 4), 0, (Ev.const _).congr fun k => ?_, ?_, fun _ => rfl⟩
    · unfold weigh_Bound.f
      rw [if_neg h, e1]
      unfold bits_Len64.f
      rw [if_pos (by omega)]
      rfl
    · have := rBound_go 64 (n.toNat + 1) 0 hy (by omega) (by omega)
      rw [Nat.zero_add] at this
      refine this.congr fun k => ?_
      unfold larchref17_Bound.f
      rw [if_neg h, e1]
      rfl
theorem sel_filter (b : Int → Bool) (lp : List Int) : ∀ d (j : Nat), j + d = lp.length → sel b lp d j = (lp.drop j).filter b
  | 0, j, h => by rw [List.drop_eq_nil_of_le (by omega)]; rfl
  | d + 1, j, h => by
    rw [drop_cons_ (by omega), List.filter_cons, ← sel_filter b lp d (j + 1) (by omega)]
    rfl
theorem leafSums_length (t : List S49) (lp s : List Int) : ∀ d (j : Nat), j + d = lp.length → (leafSums t lp s d j).length = ((lp.drop j).filter fun x => decide (Leaf (J49 t x))).length
  | 0, j, h => by rw [List.drop_eq_nil_of_le (by omega)]; rfl
  | d + 1, j, h => by
    have ih := leafSums_length t lp s d (j + 1) (by omega)
    rw [drop_cons_ (by omega), List.filter_cons]
    unfold leafSums
    by_cases e : Leaf (J49 t (rd lp (j : Int)))
    · rw [if_pos e, if_pos (by simpa using e), List.length_cons, List.length_cons, ih]
    · rw [if_neg e, if_neg (by simpa using e), ih]
theorem Keys.shape {t : List S49} {l : List Int} (S : Sound t l) {p : Int} {lp : List Int} (K : Keys t l p lp) : l = 0 :: (((J49 t 0).f4 :: (lp ++ [(J49 t (J49 t 0).f4).f5])) ++ [(J49 t 0).f5]) := by
  have h0 : InT t 0 := S.tr.inT
  have c0 := K.c0
  have c1 := K.c1
  have hL := (S.left h0 c0.1).1
  have hR := (S.right h0 c0.1).1
  have hR1 := (S.right hL c1.1).1
  have hp := K.tr
  rw [K.isP] at hp
  exact S.tr.uniq (.node h0 c0.1 (.node hL c1.1 hp (.leaf hR1 c1.2.2.2.1)) (.leaf hR c0.2.2.2.1))
theorem fits_both (t : List S49) (ht : t.length ≤ 1048576) : ∃ (b : Bool) (e : Int), Ev (fun k => weigh_Fits.f k t) (b, e) ∧ Ev (fun k => larchref17_Fits.f k t) (b, e) := by
  obtain ⟨n, e, dT, dR, hH, he⟩ := deep_both t ht
  by_cases e0 : e = 0
  rotate_left
  · have hk := he e0
    refine ⟨false, e, ?_, ?_⟩
    · obtain ⟨s, e', sT, _, hse⟩ := wsums_ev t ht
      unfold weigh_Fits.f
      refine Ev.bind sT ?_
      have : e' = e := by
        by_cases e1 : e' = 0
        · exfalso
          rcases keys_both t ht with ⟨e2, he2, kT, kR⟩ | ⟨lp, par, l, S, cT, cR, kT, kR, hlp, hcase⟩
          · have : Ev (fun k => weigh_Sums.f k t) ([], e2) := by
              unfold weigh_Sums.f
              refine Ev.bind kT ?_
              simp only [if_neg he2]
              exact Ev.const _
            have := sT.uniq this
            simp only [Prod.mk.injEq] at this
            exact he2 (this.2.symm.trans e1)
          · have := hk.uniq kR
            simp only [Prod.mk.injEq] at this
            exact e0 this.2
        · have := (hse e1).2.uniq hk
          simp only [Prod.mk.injEq] at this
          exact this.2
      subst this
      simp only [if_neg e0]
      exact Ev.const _
    · unfold larchref17_Fits.f
      refine Ev.bind dR ?_
      simp only [if_neg e0]
      exact Ev.const _
  subst e0
  have hh := hH rfl
  rcases keys_both t ht with ⟨e2, he2, kT, kR⟩ | ⟨lp, par, l, S, cT, cR, kT, kR, hlp, hcase⟩
  · exfalso
    have : Ev (fun k => larchref17_Deep.f k t) (0, e2) := by
      unfold larchref17_Deep.f
      refine Ev.bind kR ?_
      simp only [if_neg he2]
      exact Ev.const _
    have := dR.uniq this
    simp only [Prod.mk.injEq] at this
    exact he2 this.2.symm
  · have h0 : InT t 0 := S.tr.inT
    have hwS : Ev (fun k => weigh_Sums.f k t) (leafSums t lp (psGo t lp lp.length 0 (List.replicate t.length 0)) lp.length 0, 0) := by
      refine wsums_of S (p := (J49 t (J49 t 0).f4).f4) kT hlp ?_
      rcases hcase with ⟨h, hc⟩ | ⟨p, K, hp, rR⟩
      · exact .inl h
      · have e := K.isP
        subst e
        exact .inr ⟨K.tr, K.sub.nodup S.nodup, hp⟩
    have hlv := leaves_of S
    have hlen : (leafSums t lp (psGo t lp lp.length 0 (List.replicate t.length 0)) lp.length 0).length = (sel (lv t) l l.length 0).length := by
      rw [leafSums_length t lp _ lp.length 0 (by omega), sel_filter _ l l.length 0 (by omega)]
      simp only [List.drop_zero]
      have lv0 : ∀ x, Sen (J49 t x) → lv t x = false := fun x h => by unfold lv; simp [h.2.1]
      have lvn : ∀ x, ¬ Leaf (J49 t x) → lv t x = false := fun x h => by unfold lv; simp [h]
      rcases hcase with ⟨h, hc, hs, _⟩ | ⟨p, K, hp, rR⟩
      · subst h
        have hL := (S.left h0 hc.1).1
        have hR := (S.right h0 hc.1).1
        have e : l = 0 :: ([(J49 t 0).f4] ++ [(J49 t 0).f5]) := S.tr.uniq (.node h0 hc.1 (.leaf hL hs.1) (.leaf hR hc.2.2.2.1))
        rw [e]
        simp [lvn 0 hc.1, lv0 _ hs, lv0 _ hc.2.2.2]
      · rw [K.shape S]
        have hf : lp.filter (lv t) = lp.filter fun x => decide (Leaf (J49 t x)) := List.filter_congr fun x hx => by unfold lv; simp [K.inf x hx]
        simp [lvn 0 K.c0.1, lvn _ K.c1.1, lv0 _ K.c1.2.2.2, lv0 _ K.c0.2.2.2, hf]
    have hll : (sel (lv t) l l.length 0).length ≤ 100000 := Nat.le_trans (sel_le _ _ _ _) (by have := S.len; have := S.small; omega)
    obtain ⟨b, e, bT, bR, hb⟩ := bound_both ((sel (lv t) l l.length 0).length : Int) (by omega)
    refine ⟨decide (n ≤ b), 0, ?_, ?_⟩
    · unfold weigh_Fits.f
      refine Ev.bind hwS ?_
      simp only [reduceIte]
      refine Ev.bind hh ?_
      rw [hlen]
      exact Ev.bind bT (Ev.const _)
    · unfold larchref17_Fits.f
      refine Ev.bind dR ?_
      simp only [reduceIte]
      refine Ev.bind hlv ?_
      exact Ev.bind bR (Ev.const _)
end Go.Proofs.Ytmmjkebboonnkaa.P
