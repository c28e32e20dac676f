/- P.weighFaults_holds, part 23 of 23: the contracts of the Go functions that the law calls, its own walk, and its plain law, for every input that the statement speaks of. -/
import Derived.Test.YtmmjkebboonnkaaMFaults19
import Derived.Test.YtmmjkebboonnkaaMFaults21
set_option linter.unusedVariables false
set_option linter.unusedSimpArgs false
/- P12 -/
namespace Go.Proofs.Ytmmjkebboonnkaa.P
open Go.RowKit Go.Proofs.YtmmjkebboonnkaaW.PrintWords Go.Proofs.YtmmjkebboonnkaaW.PrintLast Go.Proofs.YtmmjkebboonnkaaW.PrintMore
theorem viol_both {t : List S49} {rs os : List Int} (ho : ∀ x ∈ os, InT t x) (hl : os.length ≤ 100000) (wR : Ev (fun k => weigh_Reds.f k t) (rs, 0)) (rR : Ev (fun k => larchref17_Reds.f k t) (rs, 0)) (wO : Ev (fun k => weigh_Overs.f k t) (os, 0)) (rO : Ev (fun k => larchref17_Overs.f k t) (os, 0)) :
    Ev (fun k => weigh_Violations.f k t) (vsum t os os.length 0 rs.length, 0) ∧ Ev (fun k => larchref17_Violations.f k t) (vsum t os os.length 0 rs.length, 0) := by
  constructor
  · unfold weigh_Violations.f
    refine Ev.bind wR ?_
    simp only [reduceIte]
    exact Ev.bind wO (wViol_go ho hl os.length 0 _ (by omega))
  · unfold larchref17_Violations.f
    refine Ev.bind rR ?_
    simp only [reduceIte]
    exact Ev.bind rO (rViol_go ho hl os.length 0 _ (by omega))
def hit (t : List S49) (bad L : List Int) (i : Nat) : Prop := 0 ≤ firstIn bad (pathP t (rd_T49 t (rd L (i : Int))).f0)
theorem faults_loop {t : List S49} {bad L : List Int} (ht : t.length ≤ 1048576) (hL : L.length ≤ 100000) (n : Int) (l1 : List Int) (a2 a3 : Int)
    (hF : ∀ key, Ev (fun k => weigh_First.f k t key) (firstIn bad (pathP t key), 0)) : ∀ d (j : Nat) (b : Bool), j + d = L.length →
    (200 < L.length ∨ ((b = true ∨ ∃ i : Nat, j ≤ i ∧ i < L.length ∧ hit t bad L i) ↔ n > 0)) → Ev (fun k => larchlaw17_WeighFaults.l0 k n (pairsL t L L.length 0) b (j : Int) t l1 a2 a3) true := by
  have hpl := pairsL_length t L L.length 0
  have endj : ∀ (j : Nat) (b : Bool), (200 < L.length ∨ (b = true ↔ n > 0)) → Ev (fun k => larchlaw17_WeighFaults.j6 k n (pairsL t L L.length 0) b (j : Int) false t l1 a2 a3) true := by
    intro j b h
    refine Ev.succ ((Ev.const true).congr fun k => ?_)
    simp only [larchlaw17_WeighFaults.j6, hpl]
    rw [if_neg (by simp)]
    rcases h with h | h
    · split
      · rfl
      · rw [decide_eq_true (by omega)]
    · rw [if_pos]
      rw [beq_iff_eq, Bool.eq_iff_iff, h, decide_eq_true_eq]
  intro d
  induction d with
  | zero =>
    intro j b hd h
    refine Ev.succ ((endj j b ?_).congr fun k => ?_)
    · rcases h with h | h
      · exact .inl h
      · refine .inr (Iff.trans ⟨fun hb => .inl hb, ?_⟩ h)
        rintro (hb | ⟨i, x, y, _⟩)
        · exact hb
        · omega
    · simp only [larchlaw17_WeighFaults.l0, hpl]
      rw [if_neg (by omega)]
  | succ d ih =>
    intro j b hd h
    by_cases hj : j < 200
    · have hkey := pairsL_rd t L L.length 0 j (by omega)
      rw [Nat.zero_add] at hkey
      have hF' := hF (rd_T49 t (rd L (j : Int))).f0
      refine Ev.succ (Ev.congr (g := fun k => larchlaw17_WeighFaults.j6 k n (pairsL t L L.length 0) b (j : Int) true t l1 a2 a3) (Ev.succ (Ev.congr (g := fun k => (weigh_First.f k t (rd_T49 t (rd L (j : Int))).f0).bind fun bt509 => if bt509.2 = 0 then (if b = true then larchlaw17_WeighFaults.l0 k n (pairsL t L L.length 0) true ((j + 1 : Nat) : Int) t l1 a2 a3 else larchlaw17_WeighFaults.l0 k n (pairsL t L L.length 0) (decide (bt509.1 ≥ 0)) ((j + 1 : Nat) : Int) t l1 a2 a3) else none) ?_ fun k => ?_)) fun k => ?_)
      · refine Ev.bind hF' ?_
        simp only [if_true]
        by_cases hb : b = true
        · simp only [if_pos hb]
          refine ih (j + 1) true (by omega) ?_
          rcases h with h | h
          · exact .inl h
          · refine .inr (Iff.trans ?_ h)
            exact ⟨fun _ => .inl hb, fun _ => .inl rfl⟩
        · simp only [if_neg hb]
          refine ih (j + 1) _ (by omega) ?_
          rcases h with h | h
          · exact .inl h
          · refine .inr (Iff.trans ?_ h)
            rw [decide_eq_true_eq]
            constructor
            · rintro (h1 | ⟨i, x, y, z⟩)
              · exact .inr ⟨j, Nat.le_refl _, by omega, h1⟩
              · exact .inr ⟨i, by omega, y, z⟩
            · rintro (h1 | ⟨i, x, y, z⟩)
              · exact absurd h1 hb
              · by_cases e : i = j
                · subst e
                  exact .inl z
                · exact .inr ⟨i, by omega, y, z⟩
      · simp only [larchlaw17_WeighFaults.j6, copied_eq t ht, Option.bind_some, hpl, hkey, if_true]
        rw [if_pos (by omega), if_pos (by omega), wrap_succ (by omega)]
      · simp only [larchlaw17_WeighFaults.l0, hpl]
        rw [if_pos (by omega), decide_eq_true (by omega)]
    · refine Ev.succ ((endj j b (.inl (by omega))).congr fun k => ?_)
      simp only [larchlaw17_WeighFaults.l0, hpl]
      rw [if_pos (by omega), decide_eq_false (by omega)]
theorem j4_true (n : Int) (t : List S49) (l1 : List Int) (a2 a3 : Int) : Ev (fun k => larchlaw17_WeighFaults.j4 k n true t l1 a2 a3) true := Ev.succ ((Ev.const true).congr fun k => by simp only [larchlaw17_WeighFaults.j4, if_true])
theorem faults_pure : WeighFaultsPure := by
  intro t l1 a2 a3 ht hw _ _
  refine Ev.ex (f := fun k => larchlaw17_WeighFaults.f k t l1 a2 a3) ?_
  unfold larchlaw17_WeighFaults.f
  refine Ev.bind fixed_ev ?_
  simp only [if_true, copied_eq t ht, Option.bind_some]
  -- the steps, for whatever the two answer alike
  have step : ∀ (rs os : List Int) (e : Int) (n : Int) (fe : Int) (fk : Int), rs.length ≤ 1000000 → os.length ≤ 1000000 → Ev (fun k => weigh_Reds.f k t) (rs, e) → Ev (fun k => larchref17_Reds.f k t) (rs, e) → Ev (fun k => weigh_Overs.f k t) (os, e) → Ev (fun k => larchref17_Overs.f k t) (os, e) → Ev (fun k => weigh_Violations.f k t) (n, e) → Ev (fun k => larchref17_Violations.f k t) (n, e) → Ev (fun k => weigh_First.f k t a2) (fk, fe) → Ev (fun k => larchref17_First.f k t a2) (fk, fe) → Ev (fun k => larchlaw17_WeighFaults.j3 k fe n false t l1 a2 a3) true →
      Ev (fun k => (weigh_Reds.f k t).bind fun bt466 => (larchref17_Reds.f k t).bind fun bt470 => if bt466.2 = bt470.2 then (larchref17_SameInts.f k bt466.1 bt470.1).bind fun t474 => larchlaw17_WeighFaults.j0 k (!t474) t l1 a2 a3 else larchlaw17_WeighFaults.j0 k true t l1 a2 a3) true := by
    intro rs os e n fe fk hrl hol wR rR wO rO wV rV wF rF hj
    refine Ev.bind wR (Ev.bind rR ?_)
    simp only [if_true]
    refine Ev.bind (sameInts_ev rs (by omega)) ?_
    refine Ev.succ (Ev.congr (g := fun k => (weigh_Overs.f k t).bind fun bt478 => (larchref17_Overs.f k t).bind fun bt482 => if bt478.2 = bt482.2 then (larchref17_SameInts.f k bt478.1 bt482.1).bind fun t486 => larchlaw17_WeighFaults.j1 k (!t486) t l1 a2 a3 else larchlaw17_WeighFaults.j1 k true t l1 a2 a3) ?_ fun k => ?_)
    rotate_left
    · simp only [larchlaw17_WeighFaults.j0, copied_eq t ht, Option.bind_some]
      rw [if_neg (by simp)]
    refine Ev.bind wO (Ev.bind rO ?_)
    simp only [if_true]
    refine Ev.bind (sameInts_ev os (by omega)) ?_
    refine Ev.succ (Ev.congr (g := fun k => (weigh_Violations.f k t).bind fun bt490 => (larchref17_Violations.f k t).bind fun bt492 => if bt490.1 = bt492.1 then larchlaw17_WeighFaults.j2 k bt490.1 (bt490.2 != bt492.2) t l1 a2 a3 else larchlaw17_WeighFaults.j2 k bt490.1 true t l1 a2 a3) ?_ fun k => ?_)
    rotate_left
    · simp only [larchlaw17_WeighFaults.j1, copied_eq t ht, Option.bind_some]
      rw [if_neg (by simp)]
    refine Ev.bind wV (Ev.bind rV ?_)
    simp only [if_true, bne_self_eq_false]
    refine Ev.succ (Ev.congr (g := fun k => (weigh_First.f k t a2).bind fun bt497 => (larchref17_First.f k t a2).bind fun bt499 => if bt497.1 = bt499.1 then larchlaw17_WeighFaults.j3 k bt497.2 n (bt497.2 != bt499.2) t l1 a2 a3 else larchlaw17_WeighFaults.j3 k bt497.2 n true t l1 a2 a3) ?_ fun k => ?_)
    rotate_left
    · simp only [larchlaw17_WeighFaults.j2, copied_eq t ht, Option.bind_some]
      rw [if_neg (by simp)]
    refine Ev.bind wF (Ev.bind rF ?_)
    simp only [if_true, bne_self_eq_false]
    exact hj
  rcases faults_both t ht with ⟨e, he, wR, rR, wO, rO, kR⟩ | ⟨l, lp, rs, os, S, hin, hlp, cT, kR, hrs, hos, hcase, wR, rR, wO, rO⟩
  · refine step [] [] e 0 e 0 (by simp) (by simp) wR rR wO rO ?_ ?_ ?_ ?_ ?_
    · unfold weigh_Violations.f
      refine Ev.bind wR ?_
      simp only [if_neg he]
      exact Ev.const _
    · unfold larchref17_Violations.f
      refine Ev.bind rR ?_
      simp only [if_neg he]
      exact Ev.const _
    · unfold weigh_First.f
      refine Ev.bind wR ?_
      simp only [if_neg he]
      exact Ev.const _
    · unfold larchref17_First.f
      refine Ev.bind kR ?_
      simp only [if_neg he]
      exact Ev.const _
    · refine Ev.succ ((j4_true 0 t l1 a2 a3).congr fun k => ?_)
      simp only [larchlaw17_WeighFaults.j3]
      rw [if_neg (by simp), if_neg he]
  · have hrl : rs.length ≤ 100000 := by rw [hrs]; exact Nat.le_trans (sel_le _ _ _ _) hlp
    have hol : os.length ≤ 100000 := by rw [hos]; exact Nat.le_trans (sel_le _ _ _ _) hlp
    have hmr : ∀ x, x ∈ rs ↔ x ∈ lp ∧ isRed t lp x = true := fun x => by rw [hrs]; exact mem_sel0
    have hmo : ∀ x, x ∈ os ↔ x ∈ lp ∧ isOver t x = true := fun x => by rw [hos]; exact mem_sel0
    have hoi : ∀ x ∈ os, InT t x := fun x hx => hin x ((hmo x).1 hx).1
    obtain ⟨wV, rV⟩ := viol_both hoi hol wR rR wO rO
    have hF := fun key => first_both S hin hlp cT kR hrs hos wR wO key
    refine step rs os 0 _ 0 _ (by omega) (by omega) wR rR wO rO wV rV (hF a2).1 (hF a2).2 ?_
    obtain ⟨n, hn⟩ : ∃ n, n = vsum t os os.length 0 rs.length := ⟨_, rfl⟩
    rw [← hn]
    have hL := leaves_of S
    obtain ⟨L, hLd⟩ : ∃ L, L = sel (lv t) l l.length 0 := ⟨_, rfl⟩
    rw [← hLd] at hL
    have hml : ∀ x, x ∈ L ↔ x ∈ l ∧ lv t x = true := fun x => by rw [hLd]; exact mem_sel0
    have hLi : ∀ x ∈ L, InT t x := fun x hx => S.tr.all x ((hml x).1 hx).1
    have hLl : L.length ≤ 100000 := by rw [hLd]; have := sel_le (lv t) l l.length 0; have := S.len; have := S.small; omega
    have hO : ∃ b, Ev (fun k => larchref17_Ordered.f k t) b ∧ (b = true → ∀ i : Nat, 0 ≤ i → i < L.length → rd L (i : Int) ∈ pathP t (rd_T49 t (rd L (i : Int))).f0) := by
      obtain ⟨b, h1, h2⟩ := ordered_go S hLi hLl L.length 0 (by omega)
      refine ⟨b, ?_, h2⟩
      unfold larchref17_Ordered.f
      exact Ev.bind hL h1
    obtain ⟨ob, hO1, hO2⟩ := hO
    by_cases hbig : (t.length : Int) > 4000
    · refine Ev.succ ((j4_true n t l1 a2 a3).congr fun k => ?_)
      simp only [larchlaw17_WeighFaults.j3]
      rw [if_neg (by simp), if_pos trivial, if_pos hbig]
    · refine Ev.succ (Ev.congr (g := fun k => (larchref17_Ordered.f k t).bind fun t501 => larchlaw17_WeighFaults.j4 k n (!t501) t l1 a2 a3) (Ev.bind hO1 ?_) fun k => ?_)
      rotate_left
      · simp only [larchlaw17_WeighFaults.j3]
        rw [if_neg (by simp), if_pos trivial, if_neg hbig]
      cases hob : ob with
      | false =>
        simp only [Bool.not_false]
        exact j4_true n t l1 a2 a3
      | true =>
        refine Ev.succ (Ev.congr (g := fun k => (larchref17_Pairs.f k t).bind fun t502 => larchlaw17_WeighFaults.l0 k n t502 false 0 t l1 a2 a3) ?_ fun k => ?_)
        rotate_left
        · simp only [larchlaw17_WeighFaults.j4]
          rw [if_neg (by simp)]
        have hP : Ev (fun k => larchref17_Pairs.f k t) (pairsL t L L.length 0) := by
          unfold larchref17_Pairs.f
          refine Ev.bind hL ?_
          have := pairs_go hLi hLl L.length 0 [] (by omega) (by simp)
          simpa using this
        refine Ev.bind hP ?_
        refine faults_loop (bad := rs ++ os) ht hLl n l1 a2 a3 (fun key => (hF key).1) L.length 0 false (by omega) (.inr ?_)
        -- a violation is there just if one lies on a leaf's path
        have hn0 : n > 0 ↔ 0 < rs.length + os.length := by
          constructor
          · intro h
            refine Nat.pos_of_ne_zero fun h0 => ?_
            have e1 : rs.length = 0 := by omega
            have e2 : os.length = 0 := by omega
            rw [hn, e1, e2] at h
            simp [vsum] at h
          · intro h
            have := vsum_ge (os := os) (t := t) (fun y hy => by
              have h1 := ((hmo y).1 hy).2
              have h2 := (S.fm y (hoi y hy)).1
              unfold isOver at h1
              simp at h1
              omega) hol os.length 0 rs.length (by omega) (by omega) (by omega)
            rw [← hn] at this
            omega
        rw [hn0]
        have hge : ∀ key, 0 ≤ firstIn (rs ++ os) (pathP t key) ↔ ∃ p ∈ pathP t key, p ∈ rs ++ os := fun key => firstIn_ge _ _ (fun p hp => (pathP_in S key p hp).1)
        constructor
        · rintro (h | ⟨i, _, hi, hh⟩)
          · simp at h
          · obtain ⟨p, _, hp⟩ := (hge _).1 hh
            have := List.length_pos_of_mem hp
            simp at this
            omega
        · intro h
          right
          obtain ⟨q, hq⟩ : ∃ q, q ∈ rs ++ os := by
            cases hc : rs ++ os with
            | nil =>
              have := congrArg List.length hc
              rw [List.length_append, List.length_nil] at this
              omega
            | cons q r => exact ⟨q, by simp⟩
          have hqlp : q ∈ lp := by
            rcases List.mem_append.1 hq with h | h
            · exact ((hmr q).1 h).1
            · exact ((hmo q).1 h).1
          rcases hcase with h0 | ⟨p, K⟩
          · rw [h0] at hqlp
            simp at hqlp
          · obtain ⟨lq, hTq, hsubq⟩ := K.tr.sub q hqlp
            obtain ⟨x, hx, hxl⟩ := hTq.some_leaf
            have hxlp : x ∈ lp := hsubq.subset hx
            have hxL : x ∈ L := (hml x).2 ⟨K.sub.subset hxlp, by unfold lv; simp [hxl, K.inf x hxlp]⟩
            obtain ⟨i, hi, hxi⟩ := mem_rd hxL
            refine ⟨i, Nat.zero_le _, hi, ?_⟩
            unfold hit
            rw [hge]
            have hon := hO2 hob i (Nat.zero_le _) hi
            refine ⟨q, ?_, hq⟩
            rw [hxi] at hon ⊢
            exact path_up S _ hTq x hx hon
theorem weighFaults_holds : Rows.WeighFaultsUptoSaid := WeighFaults_of faults_pure
end Go.Proofs.Ytmmjkebboonnkaa.P
#print axioms Go.Proofs.Ytmmjkebboonnkaa.P.weighFaults_holds
