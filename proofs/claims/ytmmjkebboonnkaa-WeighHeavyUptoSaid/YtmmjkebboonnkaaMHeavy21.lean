/- P.weighHeavy_holds, part 22 of 22: the contracts of the Go functions that the law calls, its own walk, and its plain law, for every input that the statement speaks of. -/
import Derived.Test.YtmmjkebboonnkaaMHeavy18
import Derived.Test.YtmmjkebboonnkaaMHeavy20
/- P8 -/
namespace Go.Proofs.Ytmmjkebboonnkaa.P
open Go.RowKit Go.Proofs.YtmmjkebboonnkaaW.PrintWords Go.Proofs.YtmmjkebboonnkaaW.PrintLast Go.Proofs.YtmmjkebboonnkaaW.PrintMore
def ownW (t : List S49) (lp : List Int) : Nat → Nat → List Int
  | 0, _ => []
  | d + 1, j => (rd_T49 t (rd lp (j : Int))).f2 :: ownW t lp d (j + 1)
theorem ownW_length (t : List S49) (lp : List Int) : ∀ d j, (ownW t lp d j).length = d
  | 0, _ => rfl
  | d + 1, j => by simp [ownW, ownW_length t lp d (j + 1)]
theorem ownW_rd (t : List S49) (lp : List Int) : ∀ d (j i : Nat), i < d → rd (ownW t lp d j) (i : Int) = (rd_T49 t (rd lp ((j + i : Nat) : Int))).f2
  | 0, j, i, h => by omega
  | d + 1, j, i, h => by
    by_cases e : i = 0
    · subst e
      rw [rd_nat]
      rfl
    · obtain ⟨m, rfl⟩ : ∃ m, i = m + 1 := ⟨i - 1, by omega⟩
      have := ownW_rd t lp d (j + 1) m (by omega)
      rw [rd_nat] at this ⊢
      simp only [ownW, List.getElem?_cons_succ]
      rw [this]
      congr 3
      omega
theorem hOwn_go {t : List S49} {lp : List Int} (hin : ∀ x ∈ lp, InT t x) (hl : lp.length ≤ 100000) (l1 : List Int) (a2 a3 : Int) (v : Bool) : ∀ d (j : Nat) (out : List Int), j + d = lp.length → out.length ≤ j → Ev (fun k => larchlaw17_WeighHeavy.j2 k (out ++ ownW t lp d j) t l1 a2 a3) v → Ev (fun k => larchlaw17_WeighHeavy.l0 k out lp (j : Int) t l1 a2 a3) v
  | 0, j, out, hd, ho, h => by
    refine Ev.succ (h.congr fun k => ?_)
    simp only [larchlaw17_WeighHeavy.l0, ownW, List.append_nil]
    rw [if_neg (by omega)]
  | d + 1, j, out, hd, ho, h => by
    obtain ⟨p0, p1⟩ := hin _ (rd_mem (l := lp) (j := j) (by omega))
    refine Ev.succ ((hOwn_go hin hl l1 a2 a3 v d (j + 1) (out ++ [(rd_T49 t (rd lp (j : Int))).f2]) (by omega) (by simp; omega) (by simpa [ownW] using h)).congr fun k => ?_)
    simp only [larchlaw17_WeighHeavy.l0]
    rw [if_pos (by omega), if_pos (by omega), if_pos p0, if_pos p1, if_pos (by omega), wrap_succ (by omega)]
theorem keys_own (t : List S49) (ht : t.length ≤ 1048576) (l1 : List Int) (a2 a3 : Int) {lp par l} (S : Sound t l) (kT : Ev (fun k => weigh_keys.f k t) (lp, par, 0)) (hlp : lp.length ≤ 100000) (hin : ∀ x ∈ lp, InT t x) (ws : List Int) (hw : ws.length = lp.length) (he : ∀ i : Nat, 0 ≤ i → i < lp.length → rd ws (i : Int) = (rd_T49 t (rd lp (i : Int))).f2) : Ev (fun k => larchlaw17_WeighHeavy.j2 k ws t l1 a2 a3) true := by
  obtain ⟨r, nT, nR, hr⟩ := norm_both S
  have hsame := stores_same (t := t) (lp := lp) (ws := ws) hin lp.length 0 (by omega) he
  have hH : Ev (fun k => weigh_Heavy.f k t ws) (r, 0) := by
    unfold weigh_Heavy.f
    refine Ev.bind kT ?_
    refine Ev.congr (g := fun k => weigh_Heavy.l0 k lp t ws (ws.length : Int) 0) ?_ fun k => ?_
    · refine wH_good (t := t) hin hw (by omega) _ lp.length 0 t (by omega) rfl (fun i a b => ?_) ?_
      · rw [he i a b]
        exact (S.fm _ (hin _ (rd_mem b))).1
      · rw [hsame]
        exact Ev.bind nT (Ev.const _)
    · simp only [reduceIte, Option.bind_some, List.length_nil, List.nil_append]
      rw [if_pos (by omega), if_pos (by omega)]
  refine Ev.succ (Ev.congr (g := fun k => (weigh_Heavy.f k t ws).bind fun bt577 => if bt577.2 = 0 then (larchref17_Norm.f k t).bind fun t581 => (larchref17_Same.f k bt577.1 t581).bind fun t584 => some t584 else none) ?_ fun k => ?_)
  · refine Ev.bind hH ?_
    simp only [reduceIte]
    refine Ev.bind nR ?_
    exact Ev.bind (same_ev r (by omega)) (Ev.const _)
  · simp only [larchlaw17_WeighHeavy.j2, copied_eq t ht, Option.bind_some]
theorem heavy_pure : WeighHeavyPure := by
  intro t ws a2 a3 ht hw _ _
  refine Ev.ex (f := fun k => larchlaw17_WeighHeavy.f k t ws a2 a3) ?_
  unfold larchlaw17_WeighHeavy.f
  refine Ev.bind fixed_ev ?_
  simp only [if_true, copied_eq t ht, ints_eq ws hw, Option.bind_some]
  obtain ⟨r, e, hT, hR, hr, hre⟩ := heavy_both t ws ht hw
  refine Ev.bind hT ?_
  refine Ev.bind hR ?_
  simp only [if_true]
  refine Ev.bind (same_ev r (by omega)) ?_
  simp only [Bool.not_true]
  obtain ⟨s, e2, sT, hsl, hse⟩ := wsums_ev t ht
  refine Ev.succ (Ev.congr (g := fun k => (weigh_Sums.f k t).bind fun bt560 => if bt560.2 = 0 then (larchref17_Root.f k t).bind fun bt564 => if bt564.1 ≥ 0 then (larchref17_Order.f k t bt564.1).bind fun t566 => larchlaw17_WeighHeavy.l0 k ([] : List Int) t566 0 t ws a2 a3 else larchlaw17_WeighHeavy.j2 k ([] : List Int) t ws a2 a3 else if (r.length : Int) = 0 then some ((bt560.1.length : Int) == 0) else none) ?_ fun k => ?_)
  rotate_left
  · simp only [larchlaw17_WeighHeavy.j0, copied_eq t ht, Option.bind_some]
    rw [if_neg (by simp)]
  refine Ev.bind sT ?_
  by_cases he2 : e2 = 0
  rotate_left
  · obtain ⟨hs0, hk⟩ := hse he2
    subst hs0
    have hr0 := hre e2 he2 hk
    subst hr0
    simp only [if_neg he2]
    refine (Ev.const true).congr fun k => ?_
    simp
  · subst he2
    simp only [if_true]
    rcases keys_both t ht with ⟨e', he', kT, kR⟩ | ⟨lp, par, l, S, cT, cR, kT, kR, hlp, hcase⟩
    · exfalso
      have : Ev (fun k => weigh_Sums.f k t) ([], e') := by
        unfold weigh_Sums.f
        refine Ev.bind kT ?_
        simp only [if_neg he']
        exact Ev.const _
      have := sT.uniq this
      simp only [Prod.mk.injEq] at this
      exact he' this.2.symm
    · rcases hcase with ⟨h, hc, hs, rR⟩ | ⟨p, K, hp, rR⟩
      · subst h
        refine Ev.bind rR ?_
        simp only [show ¬ ((-1 : Int) ≥ 0) by decide, if_false]
        exact keys_own t ht ws a2 a3 S kT hlp (fun x hx => by simp at hx) [] rfl (fun i a b => by simp at b)
      · refine Ev.bind rR ?_
        have hp0 : p ≥ 0 := K.tr.inT.1
        simp only [if_pos hp0]
        refine Ev.bind (Order_of K.tr (by omega)) ?_
        refine hOwn_go K.tr.all hlp ws a2 a3 true lp.length 0 [] (by omega) (by simp) ?_
        refine keys_own t ht ws a2 a3 S kT hlp K.tr.all _ (by simp [ownW_length]) (fun i a b => ?_)
        have := ownW_rd t lp lp.length 0 i b
        rw [List.nil_append, this, Nat.zero_add]
theorem weighHeavy_holds : Rows.WeighHeavyUptoSaid := WeighHeavy_of heavy_pure
end Go.Proofs.Ytmmjkebboonnkaa.P
#print axioms Go.Proofs.Ytmmjkebboonnkaa.P.weighHeavy_holds
