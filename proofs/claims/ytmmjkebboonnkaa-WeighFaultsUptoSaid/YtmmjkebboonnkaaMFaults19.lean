/- P.weighFaults_holds, part 20 of 23: the contracts of the Go functions that the law calls, its own walk, and its plain law, for every input that the statement speaks of. -/
import Derived.Test.YtmmjkebboonnkaaMFaults13
import Derived.Test.YtmmjkebboonnkaaMFaults3
import Derived.Test.YtmmjkebboonnkaaMFaults18
import Derived.Test.YtmmjkebboonnkaaMFaults6
import Derived.Test.YtmmjkebboonnkaaMFaults7
import Derived.Test.YtmmjkebboonnkaaMFaults10
import Derived.Test.YtmmjkebboonnkaaMFaults12
import Derived.Test.YtmmjkebboonnkaaMFaults16
import Derived.Test.YtmmjkebboonnkaaMFaults15
import Derived.Test.YtmmjkebboonnkaaMFaults17
import Derived.Test.YtmmjkebboonnkaaMFaults4
set_option linter.unusedVariables false
set_option linter.unusedSimpArgs false
/- P5 -/
namespace Go.Proofs.Ytmmjkebboonnkaa.P
open Go.RowKit Go.Proofs.YtmmjkebboonnkaaW.PrintWords Go.Proofs.YtmmjkebboonnkaaW.PrintLast Go.Proofs.YtmmjkebboonnkaaW.PrintMore
theorem fixed_at : larchlaw17_fixed.f 60 = some true := by kernel_rfl
theorem fixed_ev : Ev (fun k => larchlaw17_fixed.f k) true := Ev.of_mono 60 fixed_at (fun k => larchlaw17_fixed.mono k)
theorem copied_eq (t : List S49) (ht : t.length ≤ 1048576) : larchlaw17_copied.f t = some t := by
  unfold larchlaw17_copied.f
  simp only [Option.bind_some, List.length_nil, List.nil_append]
  rw [if_pos (by omega)]
theorem sameInts_go (l : List Int) (hl : l.length ≤ 10000000) : ∀ d (j : Nat), j + d = l.length → Ev (fun k => larchref17_SameInts.l0 k l l (j : Int)) true
  | 0, j, hj => by
    refine Ev.succ ((Ev.const true).congr fun k => ?_)
    simp only [larchref17_SameInts.l0]
    rw [if_neg (by omega)]
  | d + 1, j, hj => by
    refine Ev.succ ((sameInts_go l hl d (j + 1) (by omega)).congr fun k => ?_)
    simp only [larchref17_SameInts.l0]
    rw [if_pos (by omega), if_pos (by omega), if_pos (by omega), if_pos trivial, wrap_succ (by omega)]
theorem sameInts_ev (l : List Int) (hl : l.length ≤ 10000000) : Ev (fun k => larchref17_SameInts.f k l l) true := by
  unfold larchref17_SameInts.f
  simp only [if_true]
  exact sameInts_go l hl l.length 0 (by omega)
end Go.Proofs.Ytmmjkebboonnkaa.P
/- P6 -/
namespace Go.Proofs.Ytmmjkebboonnkaa.P
open Go.RowKit Go.Proofs.YtmmjkebboonnkaaW.PrintWords Go.Proofs.YtmmjkebboonnkaaW.PrintLast Go.Proofs.YtmmjkebboonnkaaW.PrintMore
def Shape (t x : List S49) : Prop := x.length = t.length ∧ ∀ i, InT t i → (rd_T49 x i).f0 = (rd_T49 t i).f0 ∧ (rd_T49 x i).f1 = (rd_T49 t i).f1 ∧ (rd_T49 x i).f3 = (rd_T49 t i).f3 ∧ (rd_T49 x i).f4 = (rd_T49 t i).f4 ∧ (rd_T49 x i).f5 = (rd_T49 t i).f5 ∧ 0 ≤ (rd_T49 x i).f2 ∧ (rd_T49 x i).f2 ≤ 1000000
theorem Shape.start {t l} (S : Sound t l) : Shape t t := ⟨rfl, fun i hi => ⟨rfl, rfl, rfl, rfl, rfl, (S.fm i hi).1.1, (S.fm i hi).1.2⟩⟩
theorem rdT_set (x : List S49) (a i : Int) (v : S49) (ha : 0 ≤ a ∧ a < x.length) (hi : 0 ≤ i) : rd_T49 (x.set a.toNat v) i = if i = a then v else rd_T49 x i := by
  unfold rd_T49
  rw [List.getD_eq_getElem?_getD, List.getElem?_set]
  by_cases e : i = a
  · subst e
    rw [if_pos rfl, if_pos (by omega), if_pos rfl]
    rfl
  · rw [if_neg (by omega), if_neg e, List.getD_eq_getElem?_getD]
def reW (x : List S49) (a w : Int) : List S49 := x.set a.toNat (⟨(rd_T49 x a).f0, (rd_T49 x a).f1, w, (rd_T49 x a).f3, (rd_T49 x a).f4, (rd_T49 x a).f5⟩ : S49)
theorem Shape.step {t x} {a w : Int} (h : Shape t x) (ha : InT t a) (hw : 0 ≤ w ∧ w ≤ 1000000) : Shape t (reW x a w) := by
  obtain ⟨h1, h2⟩ := h
  refine ⟨by simp [reW, h1], fun i hi => ?_⟩
  unfold reW
  rw [rdT_set x a i _ (by rw [h1]; exact ha) hi.1]
  by_cases e : i = a
  · subst e
    rw [if_pos rfl]
    obtain ⟨q0, q1, q3, q4, q5, _⟩ := h2 i hi
    exact ⟨q0, q1, q3, q4, q5, hw.1, hw.2⟩
  · rw [if_neg e]
    exact h2 i hi
theorem Shape.tr {t x} (h : Shape t x) {p l} (ht : Tr t p l) : Tr x p l := by
  induction ht with
  | @leaf p hp hl =>
    obtain ⟨_, _, _, q4, q5, _⟩ := h.2 p hp
    exact .leaf ⟨hp.1, by rw [h.1]; exact hp.2⟩ ⟨q4.trans hl.1, q5.trans hl.2⟩
  | @node p l1 l2 hp hl h1 h2 ih1 ih2 =>
    obtain ⟨_, _, _, q4, q5, _⟩ := h.2 p hp
    refine .node ⟨hp.1, by rw [h.1]; exact hp.2⟩ (fun hh => hl ⟨q4.symm.trans hh.1, q5.symm.trans hh.2⟩) (by rw [q4]; exact ih1) (by rw [q5]; exact ih2)
def okW (w : Int) : Prop := 0 ≤ w ∧ w ≤ 1000000
instance (w : Int) : Decidable (okW w) := by unfold okW; infer_instance
end Go.Proofs.Ytmmjkebboonnkaa.P
/- P7 -/
namespace Go.Proofs.Ytmmjkebboonnkaa.P
open Go.RowKit Go.Proofs.YtmmjkebboonnkaaW.PrintWords Go.Proofs.YtmmjkebboonnkaaW.PrintLast Go.Proofs.YtmmjkebboonnkaaW.PrintMore
theorem rd_nat (l : List Int) (j : Nat) : rd l (j : Int) = l[j]?.getD 0 := by unfold rd; rw [Int.toNat_natCast, List.getD_eq_getElem?_getD]
theorem Tr.parent {t p l} (h : Tr t p l) : ∀ j : Nat, 0 < j → j < l.length → ∃ i : Nat, i < j ∧ rd l (j : Int) ∈ kids t (rd l (i : Int)) := by
  induction h with
  | @leaf p h hl => intro j h0 h1; simp at h1; omega
  | @node p l1 l2 h hl h1 h2 ih1 ih2 =>
    intro j h0 hj
    have hk : kids t p = [(rd_T49 t p).f4, (rd_T49 t p).f5] := by unfold kids; rw [if_neg hl]
    obtain ⟨m, rfl⟩ : ∃ m, j = m + 1 := ⟨j - 1, by omega⟩
    simp only [List.length_cons, List.length_append] at hj
    have e0 : rd (p :: (l1 ++ l2)) ((0 : Nat) : Int) = p := by rw [rd_nat]; rfl
    have es : ∀ i : Nat, rd (p :: (l1 ++ l2)) ((i + 1 : Nat) : Int) = rd (l1 ++ l2) (i : Int) := fun i => by rw [rd_nat, rd_nat]; rfl
    have el : ∀ i : Nat, i < l1.length → rd (l1 ++ l2) (i : Int) = rd l1 (i : Int) := fun i hi => by rw [rd_nat, rd_nat, List.getElem?_append_left hi]
    have er : ∀ i : Nat, rd (l1 ++ l2) ((l1.length + i : Nat) : Int) = rd l2 (i : Int) := fun i => by rw [rd_nat, rd_nat, List.getElem?_append_right (by omega)]; congr 2; omega
    rw [es]
    by_cases hm : m < l1.length
    · rw [el m hm]
      by_cases hz : m = 0
      · subst hz
        obtain ⟨l', e⟩ := h1.head
        refine ⟨0, by omega, ?_⟩
        rw [e0, hk, e, rd_nat]
        simp
      · obtain ⟨i, a, b⟩ := ih1 m (by omega) hm
        refine ⟨i + 1, by omega, ?_⟩
        rw [es, el i (by omega)]
        exact b
    · obtain ⟨q, rfl⟩ : ∃ q, m = l1.length + q := ⟨m - l1.length, by omega⟩
      rw [er]
      by_cases hz : q = 0
      · subst hz
        obtain ⟨l', e⟩ := h2.head
        refine ⟨0, by omega, ?_⟩
        rw [e0, hk, e, rd_nat]
        simp
      · obtain ⟨i, a, b⟩ := ih2 q (by omega) (by omega)
        refine ⟨l1.length + i + 1, by omega, ?_⟩
        rw [es, er]
        exact b
theorem rd_inj {l : List Int} (hn : l.Nodup) {i j : Nat} (hi : i < l.length) (hj : j < l.length) (e : rd l (i : Int) = rd l (j : Int)) : i = j := by
  rw [rd_nat, rd_nat, List.getElem?_eq_getElem hi, List.getElem?_eq_getElem hj] at e
  simp only [Option.getD_some] at e
  rw [List.nodup_iff_pairwise_ne, List.pairwise_iff_getElem] at hn
  rcases Nat.lt_trichotomy i j with h | h | h
  · exact absurd e (hn i j hi hj h)
  · exact h
  · exact absurd e.symm (hn j i hj hi h)
theorem lt_of_kid {t : List S49} {l : List Int} (S : Sound t l) {p : Int} {lp : List Int} (h : Tr t p lp) (hn : lp.Nodup) {i j : Nat} (hi : i < lp.length) (hj : j < lp.length) (hk : rd lp (i : Int) ∈ kids t (rd lp (j : Int))) : j < i := by
  by_cases hz : i = 0
  · exfalso
    subst hz
    have hp : rd lp ((0 : Nat) : Int) = p := by
      obtain ⟨l', e⟩ := h.head
      rw [rd_nat, e]
      rfl
    rw [hp] at hk
    have hc := h.count p
    have h1 : lp.count p ≤ 1 := List.nodup_iff_count.1 hn p
    have h2 : 0 < (lp.flatMap (kids t)).count p := List.count_pos_iff.2 (List.mem_flatMap.2 ⟨_, rd_mem hj, hk⟩)
    rw [if_pos rfl] at hc
    omega
  · obtain ⟨i', a, b⟩ := h.parent i (by omega) hi
    have e := S.one (h.all _ (rd_mem (l := lp) (j := i') (by omega))) (h.all _ (rd_mem hj)) b hk
    have := rd_inj hn (by omega) hj e
    omega
structure PS (t : List S49) (lp : List Int) (s : List Int) : Prop where
  len : s.length = t.length
  z : 0 < lp.length → rd s (rd lp 0) = (rd_T49 t (rd lp 0)).f2
  k : ∀ i : Nat, i < lp.length → ∀ c ∈ kids t (rd lp (i : Int)), rd s c = wrap64 (rd s (rd lp (i : Int)) + (rd_T49 t c).f2)
end Go.Proofs.Ytmmjkebboonnkaa.P
/- P10 -/
namespace Go.Proofs.Ytmmjkebboonnkaa.P
open Go.RowKit Go.Proofs.YtmmjkebboonnkaaW.PrintWords Go.Proofs.YtmmjkebboonnkaaW.PrintLast Go.Proofs.YtmmjkebboonnkaaW.PrintMore
def sel (b : Int → Bool) (lp : List Int) : Nat → Nat → List Int
  | 0, _ => []
  | d + 1, j => if b (rd lp (j : Int)) = true then rd lp (j : Int) :: sel b lp d (j + 1) else sel b lp d (j + 1)
theorem sel_le (b : Int → Bool) (lp : List Int) : ∀ d j, (sel b lp d j).length ≤ d
  | 0, _ => Nat.le_refl _
  | d + 1, j => by
    unfold sel
    have := sel_le b lp d (j + 1)
    split <;> simp <;> omega
theorem mem_sel (b : Int → Bool) (lp : List Int) (x : Int) : ∀ d (j : Nat), j + d = lp.length → (x ∈ sel b lp d j ↔ ∃ i : Nat, j ≤ i ∧ i < lp.length ∧ rd lp (i : Int) = x ∧ b x = true)
  | 0, j, h => by
    simp only [sel, List.not_mem_nil, false_iff]
    rintro ⟨i, a, b, _⟩
    omega
  | d + 1, j, h => by
    have ih := mem_sel b lp x d (j + 1) (by omega)
    unfold sel
    constructor
    · intro hx
      split at hx
      · rename_i hb
        rcases List.mem_cons.1 hx with e | hx
        · exact ⟨j, Nat.le_refl _, by omega, e.symm, by rw [e]; exact hb⟩
        · obtain ⟨i, a, c⟩ := ih.1 hx
          exact ⟨i, by omega, c⟩
      · obtain ⟨i, a, c⟩ := ih.1 hx
        exact ⟨i, by omega, c⟩
    · rintro ⟨i, a, c, e, hb⟩
      by_cases hij : i = j
      · subst hij
        rw [if_pos (by rw [e]; exact hb), e]
        exact List.mem_cons_self
      · have := ih.2 ⟨i, by omega, c, e, hb⟩
        split
        · exact List.mem_cons_of_mem _ this
        · exact this
theorem mem_sel0 {b : Int → Bool} {lp : List Int} {x : Int} : x ∈ sel b lp lp.length 0 ↔ x ∈ lp ∧ b x = true := by
  rw [mem_sel b lp x lp.length 0 (by omega)]
  constructor
  · rintro ⟨i, _, a, rfl, h⟩
    exact ⟨rd_mem a, h⟩
  · rintro ⟨h1, h2⟩
    obtain ⟨i, a, e⟩ := mem_rd h1
    exact ⟨i, Nat.zero_le _, a, e, h2⟩
def isRed (t : List S49) (lp : List Int) (c : Int) : Bool := lp.any fun p => decide (c ∈ kids t p) && ((rd_T49 t p).f2 == 0) && ((rd_T49 t c).f2 == 0)
def isOver (t : List S49) (c : Int) : Bool := decide (1 < (rd_T49 t c).f2)
theorem isRed_iff (t : List S49) (lp : List Int) (c : Int) : isRed t lp c = true ↔ ∃ i : Nat, i < lp.length ∧ c ∈ kids t (rd lp (i : Int)) ∧ (rd_T49 t (rd lp (i : Int))).f2 = 0 ∧ (rd_T49 t c).f2 = 0 := by
  unfold isRed
  simp only [List.any_eq_true, Bool.and_eq_true, decide_eq_true_eq, beq_iff_eq]
  constructor
  · rintro ⟨p, hp, ⟨a, b⟩, c⟩
    obtain ⟨i, h1, rfl⟩ := mem_rd hp
    exact ⟨i, h1, a, b, c⟩
  · rintro ⟨i, h1, a, b, c⟩
    exact ⟨_, rd_mem h1, ⟨a, b⟩, c⟩
theorem rdB_set (x : List Bool) (a i : Int) (v : Bool) (ha : 0 ≤ a ∧ a < x.length) (hi : 0 ≤ i) : rdOf false (x.set a.toNat v) i = if i = a then v else rdOf false x i := by
  unfold rdOf
  rw [List.getD_eq_getElem?_getD, List.getElem?_set]
  by_cases e : i = a
  · subst e
    rw [if_pos rfl, if_pos (by omega), if_pos rfl]
    rfl
  · rw [if_neg (by omega), if_neg e, List.getD_eq_getElem?_getD]
def RedInv (t : List S49) (lp : List Int) (j : Nat) (x : List Bool) : Prop := x.length = t.length ∧ ∀ c, InT t c → (rdOf false x c = true ↔ ∃ i : Nat, i < j ∧ c ∈ kids t (rd lp (i : Int)) ∧ (rd_T49 t (rd lp (i : Int))).f2 = 0 ∧ (rd_T49 t c).f2 = 0)
theorem rreds_go {t : List S49} {l : List Int} (S : Sound t l) {lp : List Int} (hin : ∀ x ∈ lp, InT t x) (hl : lp.length ≤ 100000) : ∀ d (j : Nat) (x : List Bool), j + d = lp.length → RedInv t lp j x → ∃ r, Ev (fun k => larchref17_reds.l0 k t lp x (j : Int)) r ∧ RedInv t lp lp.length r
  | 0, j, x, hd, hx => by
    have : j = lp.length := by omega
    subst this
    refine ⟨x, Ev.succ ((Ev.const x).congr fun k => ?_), hx⟩
    simp only [larchref17_reds.l0]
    rw [if_neg (by omega)]
  | d + 1, j, x, hd, hx => by
    obtain ⟨q, hq⟩ : ∃ q, q = rd lp (j : Int) := ⟨_, rfl⟩
    have hqi : InT t q := by rw [hq]; exact hin _ (rd_mem (by omega))
    obtain ⟨q0, q1⟩ := hqi
    obtain ⟨hxl, hxi⟩ := hx
    by_cases hlf : Leaf (rd_T49 t q)
    · have hkq : kids t q = [] := by unfold kids; rw [if_pos hlf]
      obtain ⟨r, a, b⟩ := rreds_go S hin hl d (j + 1) x (by omega) ⟨hxl, fun c hc => by
        rw [hxi c hc]
        constructor
        · rintro ⟨i, h1, h2⟩
          exact ⟨i, by omega, h2⟩
        · rintro ⟨i, h1, h2, h3⟩
          by_cases e : i = j
          · subst e
            rw [← hq, hkq] at h2
            simp at h2
          · exact ⟨i, by omega, h2, h3⟩⟩
      refine ⟨r, Ev.succ (a.congr fun k => ?_), b⟩
      simp only [larchref17_reds.l0, leafF, Option.bind_some, decide_eq_true_eq, ← hq]
      rw [if_pos (by omega), if_pos (by omega), if_pos q0, if_pos q1, if_pos hlf, wrap_succ (by omega)]
    · have hkq : kids t q = [(rd_T49 t q).f4, (rd_T49 t q).f5] := by unfold kids; rw [if_neg hlf]
      obtain ⟨⟨a0, a1⟩, -⟩ := S.left ⟨q0, q1⟩ hlf
      obtain ⟨⟨b0, b1⟩, -⟩ := S.right ⟨q0, q1⟩ hlf
      by_cases hw : (rd_T49 t q).f2 = 0
      · obtain ⟨r, a, b⟩ := rreds_go S hin hl d (j + 1) ((x.set (rd_T49 t q).f4.toNat ((rd_T49 t (rd_T49 t q).f4).f2 == 0)).set (rd_T49 t q).f5.toNat ((rd_T49 t (rd_T49 t q).f5).f2 == 0)) (by omega) ⟨by simp [hxl], fun c hc => by
          rw [rdB_set _ _ _ _ (by simp [hxl]; omega) hc.1, rdB_set _ _ _ _ (by omega) hc.1]
          have hold := hxi c hc
          by_cases e5 : c = (rd_T49 t q).f5
          · rw [if_pos e5]
            subst e5
            simp only [beq_iff_eq]
            constructor
            · intro h
              exact ⟨j, by omega, by rw [← hq, hkq]; simp, by rw [← hq]; exact hw, h⟩
            · rintro ⟨i, _, _, _, h⟩
              exact h
          · rw [if_neg e5]
            by_cases e4 : c = (rd_T49 t q).f4
            · rw [if_pos e4]
              subst e4
              simp only [beq_iff_eq]
              constructor
              · intro h
                exact ⟨j, by omega, by rw [← hq, hkq]; simp, by rw [← hq]; exact hw, h⟩
              · rintro ⟨i, _, _, _, h⟩
                exact h
            · rw [if_neg e4, hold]
              constructor
              · rintro ⟨i, h1, h2⟩
                exact ⟨i, by omega, h2⟩
              · rintro ⟨i, h1, h2, h3⟩
                by_cases e : i = j
                · subst e
                  rw [← hq, hkq] at h2
                  simp at h2
                  rcases h2 with h2 | h2
                  · exact absurd h2 e4
                  · exact absurd h2 e5
                · exact ⟨i, by omega, h2, h3⟩⟩
        refine ⟨r, Ev.succ (a.congr fun k => ?_), b⟩
        simp only [larchref17_reds.l0, leafF, Option.bind_some, decide_eq_true_eq, ← hq]
        rw [if_pos (by omega), if_pos (by omega), if_pos q0, if_pos q1, if_neg hlf, if_pos hw, if_pos a0, if_pos a1, if_pos (by omega), if_pos b0, if_pos b1, if_pos (by omega), wrap_succ (by omega)]
      · obtain ⟨r, a, b⟩ := rreds_go S hin hl d (j + 1) x (by omega) ⟨hxl, fun c hc => by
          rw [hxi c hc]
          constructor
          · rintro ⟨i, h1, h2⟩
            exact ⟨i, by omega, h2⟩
          · rintro ⟨i, h1, h2, h3, h4⟩
            by_cases e : i = j
            · subst e
              rw [← hq] at h3
              exact absurd h3 hw
            · exact ⟨i, by omega, h2, h3, h4⟩⟩
        refine ⟨r, Ev.succ (a.congr fun k => ?_), b⟩
        simp only [larchref17_reds.l0, leafF, Option.bind_some, decide_eq_true_eq, ← hq]
        rw [if_pos (by omega), if_pos (by omega), if_pos q0, if_pos q1, if_neg hlf, if_neg hw, wrap_succ (by omega)]
theorem rreds_of {t : List S49} {l : List Int} (S : Sound t l) {lp : List Int} (hin : ∀ x ∈ lp, InT t x) (hl : lp.length ≤ 100000) : ∃ r, Ev (fun k => larchref17_reds.f k t lp) r ∧ r.length = t.length ∧ ∀ c, InT t c → rdOf false r c = isRed t lp c := by
  obtain ⟨r, a, b⟩ := rreds_go S hin hl lp.length 0 (List.replicate t.length false) (by omega) ⟨by simp, fun c hc => by
    constructor
    · intro h
      exfalso
      unfold rdOf at h
      rw [List.getD_eq_getElem?_getD, List.getElem?_replicate] at h
      split at h <;> simp at h
    · rintro ⟨i, h, _⟩
      omega⟩
  refine ⟨r, a.congr fun k => ?_, b.1, fun c hc => ?_⟩
  · have := S.small
    unfold larchref17_reds.f
    rw [if_pos (by omega), if_pos (by omega)]
    rfl
  · rw [Bool.eq_iff_iff, b.2 c hc, isRed_iff]
theorem rReds_go {t : List S49} {lp : List Int} {x : List Bool} (hin : ∀ x ∈ lp, InT t x) (hl : lp.length ≤ 100000) (hx : x.length = t.length) (b : Int → Bool) (hb : ∀ c, InT t c → rdOf false x c = b c) : ∀ d (j : Nat) (out : List Int), j + d = lp.length → out.length ≤ j → Ev (fun k => larchref17_Reds.l0 k lp x out (j : Int)) (out ++ sel b lp d j, 0)
  | 0, j, out, hd, ho => by
    refine Ev.succ ((Ev.const _).congr fun k => ?_)
    simp only [larchref17_Reds.l0, sel, List.append_nil]
    rw [if_neg (by omega)]
  | d + 1, j, out, hd, ho => by
    obtain ⟨p0, p1⟩ := hin _ (rd_mem (l := lp) (j := j) (by omega))
    have hbj := hb _ ⟨p0, p1⟩
    simp only [sel]
    by_cases e : b (rd lp (j : Int)) = true
    · rw [if_pos e]
      refine Ev.succ ((rReds_go hin hl hx b hb d (j + 1) (out ++ [rd lp (j : Int)]) (by omega) (by simp; omega)).congr' (by simp) fun k => ?_)
      simp only [larchref17_Reds.l0]
      rw [if_pos (by omega), if_pos (by omega), if_pos p0, if_pos (by omega), if_pos (hbj.trans e), if_pos (by omega), wrap_succ (by omega)]
    · rw [if_neg e]
      refine Ev.succ ((rReds_go hin hl hx b hb d (j + 1) out (by omega) (by omega)).congr fun k => ?_)
      simp only [larchref17_Reds.l0]
      rw [if_pos (by omega), if_pos (by omega), if_pos p0, if_pos (by omega), if_neg (by rw [hbj]; exact e), wrap_succ (by omega)]
theorem rOvers_go {t : List S49} {lp : List Int} (hin : ∀ x ∈ lp, InT t x) (hl : lp.length ≤ 100000) : ∀ d (j : Nat) (out : List Int), j + d = lp.length → out.length ≤ j → Ev (fun k => larchref17_Overs.l0 k t lp out (j : Int)) (out ++ sel (isOver t) lp d j, 0)
  | 0, j, out, hd, ho => by
    refine Ev.succ ((Ev.const _).congr fun k => ?_)
    simp only [larchref17_Overs.l0, sel, List.append_nil]
    rw [if_neg (by omega)]
  | d + 1, j, out, hd, ho => by
    obtain ⟨p0, p1⟩ := hin _ (rd_mem (l := lp) (j := j) (by omega))
    simp only [sel]
    by_cases e : isOver t (rd lp (j : Int)) = true
    · rw [if_pos e]
      unfold isOver at e
      refine Ev.succ ((rOvers_go hin hl d (j + 1) (out ++ [rd lp (j : Int)]) (by omega) (by simp; omega)).congr' (by simp) fun k => ?_)
      simp only [larchref17_Overs.l0]
      rw [if_pos (by omega), if_pos (by omega), if_pos p0, if_pos p1, if_pos (by simpa using e), if_pos (by omega), wrap_succ (by omega)]
    · rw [if_neg e]
      unfold isOver at e
      refine Ev.succ ((rOvers_go hin hl d (j + 1) out (by omega) (by omega)).congr fun k => ?_)
      simp only [larchref17_Overs.l0]
      rw [if_pos (by omega), if_pos (by omega), if_pos p0, if_pos p1, if_neg (by simpa using e), wrap_succ (by omega)]
theorem pick_go {t : List S49} {lp par : List Int} (hin : ∀ x ∈ lp, InT t x) (hp : par.length = t.length) (hl : lp.length ≤ 100000) (is : Int → Int → Option Bool) (b : Int → Bool) (hb : ∀ j : Nat, j < lp.length → is (rd lp (j : Int)) (if j = 0 then -1 else rd par (rd lp (j : Int))) = some (b (rd lp (j : Int)))) : ∀ d (j : Nat) (out : List Int), j + d = lp.length → out.length ≤ j → pickGo is lp par d j out = some (out ++ sel b lp d j)
  | 0, j, out, hd, ho => by simp [pickGo, sel]
  | d + 1, j, out, hd, ho => by
    obtain ⟨p0, p1⟩ := hin _ (rd_mem (l := lp) (j := j) (by omega))
    simp only [pickGo, sel]
    rw [if_pos ⟨p0, by rw [hp]; exact p1, by omega⟩, hb j (by omega), Option.bind_some]
    by_cases e : b (rd lp (j : Int)) = true
    · rw [if_pos e, if_pos e, pick_go hin hp hl is b hb d (j + 1) _ (by omega) (by simp; omega)]
      simp
    · rw [if_neg e, if_neg e, pick_go hin hp hl is b hb d (j + 1) _ (by omega) (by omega)]
theorem redIs_eq {t : List S49} {l : List Int} (S : Sound t l) {p : Int} {lp par : List Int} (h : Tr t p lp) (hn : lp.Nodup) (hp : ParOK t par t.length) : ∀ j : Nat, j < lp.length → redIs t (rd lp (j : Int)) (if j = 0 then -1 else rd par (rd lp (j : Int))) = some (isRed t lp (rd lp (j : Int))) := by
  intro j hj
  have hin : ∀ i : Nat, i < lp.length → InT t (rd lp (i : Int)) := fun i hi => h.all _ (rd_mem hi)
  obtain ⟨p0, p1⟩ := hin j hj
  by_cases e : j = 0
  · subst e
    have hf : isRed t lp (rd lp ((0 : Nat) : Int)) = false := by
      rw [Bool.eq_false_iff]
      intro hh
      obtain ⟨i, h1, h2, _⟩ := (isRed_iff _ _ _).1 hh
      have := lt_of_kid S h hn hj h1 h2
      omega
    rw [hf, if_pos rfl]
    unfold redIs
    rw [if_pos (by decide)]
  · rw [if_neg e]
    obtain ⟨i, a, b⟩ := h.parent j (by omega) hj
    have hi := hin i (by omega)
    have hpar : rd par (rd lp (j : Int)) = rd lp (i : Int) := by
      have := hp.2 (rd lp (i : Int)).toNat (by have := hi.1; have := hi.2; omega) (rd lp (j : Int)) (by rw [Int.toNat_of_nonneg hi.1]; exact b)
      rwa [Int.toNat_of_nonneg hi.1] at this
    rw [hpar]
    unfold redIs
    rw [if_neg (by have := hi.1; omega), if_pos ⟨p0, p1⟩]
    have hiff : isRed t lp (rd lp (j : Int)) = true ↔ (rd_T49 t (rd lp (j : Int))).f2 = 0 ∧ (rd_T49 t (rd lp (i : Int))).f2 = 0 := by
      rw [isRed_iff]
      constructor
      · rintro ⟨i', h1, h2, h3, h4⟩
        have := S.one hi (hin i' h1) b h2
        rw [this]
        exact ⟨h4, h3⟩
      · rintro ⟨h1, h2⟩
        exact ⟨i, by omega, b, h2, h1⟩
    by_cases hw : (rd_T49 t (rd lp (j : Int))).f2 = 0
    · rw [if_pos hw, if_pos hi.2]
      congr 1
      rw [Bool.eq_iff_iff, hiff]
      simp [hw]
    · rw [if_neg hw]
      congr 1
      rw [Bool.eq_iff_iff, hiff]
      simp [hw]
theorem overIs_eq {t : List S49} {lp par : List Int} (hin : ∀ x ∈ lp, InT t x) : ∀ j : Nat, j < lp.length → overIs t (rd lp (j : Int)) (if j = 0 then -1 else rd par (rd lp (j : Int))) = some (isOver t (rd lp (j : Int))) := by
  intro j hj
  have hi := hin _ (rd_mem hj)
  unfold overIs isOver
  rw [if_pos (show 0 ≤ rd lp (j : Int) ∧ rd lp (j : Int) < (t.length : Int) from hi)]
theorem faults_both (t : List S49) (ht : t.length ≤ 1048576) :
    (∃ e : Int, e ≠ 0 ∧ Ev (fun k => weigh_Reds.f k t) ([], e) ∧ Ev (fun k => larchref17_Reds.f k t) ([], e) ∧ Ev (fun k => weigh_Overs.f k t) ([], e) ∧ Ev (fun k => larchref17_Overs.f k t) ([], e) ∧ Ev (fun k => larchref17_keys.f k t) ([], e)) ∨
    (∃ l lp rs os, Sound t l ∧ (∀ x ∈ lp, InT t x) ∧ lp.length ≤ 100000 ∧ Ev (fun k => table_Check.f k t) 0 ∧ Ev (fun k => larchref17_keys.f k t) (lp, 0) ∧ rs = sel (isRed t lp) lp lp.length 0 ∧ os = sel (isOver t) lp lp.length 0 ∧ (lp = [] ∨ ∃ p, Keys t l p lp) ∧
      Ev (fun k => weigh_Reds.f k t) (rs, 0) ∧ Ev (fun k => larchref17_Reds.f k t) (rs, 0) ∧ Ev (fun k => weigh_Overs.f k t) (os, 0) ∧ Ev (fun k => larchref17_Overs.f k t) (os, 0)) := by
  rcases keys_both t ht with ⟨e, he, kT, kR⟩ | ⟨lp, par, l, S, cT, cR, kT, kR, hlp, hcase⟩
  · refine .inl ⟨e, he, ?_, ?_, ?_, ?_, kR⟩
    · unfold weigh_Reds.f pickedF
      refine Ev.bind kT ?_
      simp only [if_neg he]
      exact Ev.const _
    · unfold larchref17_Reds.f
      refine Ev.bind kR ?_
      simp only [if_neg he]
      exact Ev.const _
    · unfold weigh_Overs.f pickedF
      refine Ev.bind kT ?_
      simp only [if_neg he]
      exact Ev.const _
    · unfold larchref17_Overs.f
      refine Ev.bind kR ?_
      simp only [if_neg he]
      exact Ev.const _
  · have hin : ∀ x ∈ lp, InT t x := by
      rcases hcase with ⟨h, _⟩ | ⟨p, K, _⟩
      · subst h; intro x hx; simp at hx
      · exact K.tr.all
    obtain ⟨r, ra, rl, rb⟩ := rreds_of S hin hlp
    have hR : Ev (fun k => larchref17_Reds.f k t) (sel (isRed t lp) lp lp.length 0, 0) := by
      unfold larchref17_Reds.f
      refine Ev.bind kR ?_
      simp only [reduceIte]
      refine Ev.bind ra ?_
      have := rReds_go hin hlp rl _ rb lp.length 0 [] (by omega) (by simp)
      simpa using this
    have hO : Ev (fun k => larchref17_Overs.f k t) (sel (isOver t) lp lp.length 0, 0) := by
      unfold larchref17_Overs.f
      refine Ev.bind kR ?_
      simp only [reduceIte]
      have := rOvers_go hin hlp lp.length 0 [] (by omega) (by simp)
      simpa using this
    refine .inr ⟨l, lp, _, _, S, hin, hlp, cT, kR, rfl, rfl, ?_, ?_, hR, ?_, hO⟩
    · rcases hcase with ⟨h, _⟩ | ⟨p, K, _⟩
      · exact .inl h
      · exact .inr ⟨p, K⟩
    · unfold weigh_Reds.f pickedF
      refine Ev.bind kT ?_
      simp only [reduceIte]
      refine (Ev.const _).congr fun k => ?_
      rcases hcase with ⟨h, _⟩ | ⟨p, K, hp, _⟩
      · subst h; rfl
      · rw [pick_go hin hp.1 hlp _ _ (redIs_eq S K.tr (K.sub.nodup S.nodup) hp) lp.length 0 [] (by omega) (by simp)]
        simp
    · unfold weigh_Overs.f pickedF
      refine Ev.bind kT ?_
      simp only [reduceIte]
      refine (Ev.const _).congr fun k => ?_
      rcases hcase with ⟨h, _⟩ | ⟨p, K, hp, _⟩
      · subst h; rfl
      · rw [pick_go hin hp.1 hlp _ _ (overIs_eq hin) lp.length 0 [] (by omega) (by simp)]
        simp
end Go.Proofs.Ytmmjkebboonnkaa.P
/- P11 -/
namespace Go.Proofs.Ytmmjkebboonnkaa.P
open Go.RowKit Go.Proofs.YtmmjkebboonnkaaW.PrintWords Go.Proofs.YtmmjkebboonnkaaW.PrintLast Go.Proofs.YtmmjkebboonnkaaW.PrintMore
def vsum (t : List S49) (os : List Int) : Nat → Nat → Int → Int
  | 0, _, x => x
  | d + 1, j, x => vsum t os d (j + 1) (wrap64 (x + wrap64 ((rd_T49 t (rd os (j : Int))).f2 - 1)))
theorem vsum_ge {t : List S49} {os : List Int} (hos : ∀ y ∈ os, 2 ≤ (rd_T49 t y).f2 ∧ (rd_T49 t y).f2 ≤ 1000000) (hl : os.length ≤ 100000) : ∀ (d j : Nat) (x : Int), j + d = os.length → 0 ≤ x → x ≤ 100000 + 1000000 * (j : Int) → x + (d : Int) ≤ vsum t os d j x := by
  intro d
  induction d with
  | zero =>
    intro j x hd h0 h1
    show x + ((0 : Nat) : Int) ≤ x
    omega
  | succ d ih =>
    intro j x hd h0 h1
    obtain ⟨a, b⟩ := hos _ (rd_mem (l := os) (j := j) (by omega))
    obtain ⟨w, hw⟩ : ∃ w, w = (rd_T49 t (rd os (j : Int))).f2 := ⟨_, rfl⟩
    rw [← hw] at a b
    have e : wrap64 (x + wrap64 (w - 1)) = x + (w - 1) := by unfold wrap64; omega
    have := ih (j + 1) (x + (w - 1)) (by omega) (by omega) (by omega)
    simp only [vsum]
    rw [← hw, e]
    omega
theorem wViol_go {t : List S49} {os : List Int} (hin : ∀ x ∈ os, InT t x) (hl : os.length ≤ 100000) : ∀ d (j : Nat) x, j + d = os.length → Ev (fun k => weigh_Violations.l0 k t x os (os.length : Int) (j : Int)) (vsum t os d j x, 0)
  | 0, j, x, hd => by
    refine Ev.succ ((Ev.const _).congr fun k => ?_)
    simp only [weigh_Violations.l0, vsum]
    rw [if_neg (by omega)]
  | d + 1, j, x, hd => by
    obtain ⟨p0, p1⟩ := hin _ (rd_mem (l := os) (j := j) (by omega))
    refine Ev.succ ((wViol_go hin hl d (j + 1) _ (by omega)).congr fun k => ?_)
    simp only [weigh_Violations.l0]
    rw [if_pos (by omega), if_pos (by omega), if_pos (by omega), if_pos p0, if_pos p1, wrap_succ (by omega)]
theorem rViol_go {t : List S49} {os : List Int} (hin : ∀ x ∈ os, InT t x) (hl : os.length ≤ 100000) : ∀ d (j : Nat) x, j + d = os.length → Ev (fun k => larchref17_Violations.l0 k t os x (j : Int)) (vsum t os d j x, 0)
  | 0, j, x, hd => by
    refine Ev.succ ((Ev.const _).congr fun k => ?_)
    simp only [larchref17_Violations.l0, vsum]
    rw [if_neg (by omega)]
  | d + 1, j, x, hd => by
    obtain ⟨p0, p1⟩ := hin _ (rd_mem (l := os) (j := j) (by omega))
    refine Ev.succ ((rViol_go hin hl d (j + 1) _ (by omega)).congr fun k => ?_)
    simp only [larchref17_Violations.l0]
    rw [if_pos (by omega), if_pos (by omega), if_pos p0, if_pos p1, wrap_succ (by omega)]
def nxt (t : List S49) (key p : Int) : Int := if (rd_T49 t p).f1 = 1 then (rd_T49 t p).f4 else if key < (rd_T49 t p).f0 then (rd_T49 t p).f4 else (rd_T49 t p).f5
def pathF (t : List S49) (key : Int) : Nat → Int → List Int
  | 0, _ => []
  | d + 1, p => if Leaf (rd_T49 t p) then [] else nxt t key p :: pathF t key d (nxt t key p)
theorem pathF_le (t : List S49) (key : Int) : ∀ d p, (pathF t key d p).length ≤ d
  | 0, p => Nat.le_refl _
  | d + 1, p => by
    unfold pathF
    split
    · simp
    · have := pathF_le t key d (nxt t key p)
      simp; omega
theorem nxt_kid {t : List S49} {key p : Int} (hl : ¬ Leaf (rd_T49 t p)) : nxt t key p ∈ kids t p := by
  unfold nxt kids
  rw [if_neg hl]
  split
  · simp
  · split <;> simp
theorem Tr.nxt {t : List S49} {key p : Int} {l : List Int} (h : Tr t p l) (hl : ¬ Leaf (rd_T49 t p)) : ∃ l', Tr t (nxt t key p) l' ∧ l'.length < l.length := by
  cases h with
  | leaf _ hl' => exact absurd hl' hl
  | node _ _ h1 h2 =>
    rename_i l1 l2 _ _
    have p1 := h1.pos
    have p2 := h2.pos
    unfold P.nxt
    split
    · exact ⟨_, h1, by simp; omega⟩
    · split
      · exact ⟨_, h1, by simp; omega⟩
      · exact ⟨_, h2, by simp; omega⟩
theorem path_both {t : List S49} (key : Int) : ∀ d p l, Tr t p l → l.length ≤ d → d ≤ 100000 → ∀ out, out.length + d ≤ 1000000 → Ev (fun k => table_path.l0 k t key p out) (out ++ pathF t key d p) ∧ Ev (fun k => larchref17_Path.l0 k t key out p) (out ++ pathF t key d p) := by
  intro d
  induction d with
  | zero => intro p l h hl; have := h.pos; omega
  | succ d ih =>
    intro p l h hl hd out ho
    obtain ⟨p0, p1⟩ := h.inT
    by_cases hlf : Leaf (rd_T49 t p)
    · simp only [pathF]
      rw [if_pos hlf, List.append_nil]
      constructor
      · refine Ev.succ ((Ev.const out).congr fun k => ?_)
        simp only [table_path.l0, isLeafF, Option.bind_some, decide_eq_true_eq]
        rw [if_pos p0, if_pos p1, if_pos hlf]
      · refine Ev.succ ((Ev.const out).congr fun k => ?_)
        simp only [larchref17_Path.l0, leafF, Option.bind_some, decide_eq_true_eq]
        rw [if_pos p0, if_pos p1, if_pos hlf]
    · obtain ⟨l', hl', hlen⟩ := h.nxt (key := key) hlf
      obtain ⟨a, b⟩ := ih _ l' hl' (by omega) (by omega) (out ++ [nxt t key p]) (by simp; omega)
      simp only [pathF]
      rw [if_neg hlf]
      constructor
      · refine Ev.succ (a.congr' (by simp) fun k => ?_)
        simp only [table_path.l0, isLeafF, Option.bind_some, decide_eq_true_eq]
        rw [if_pos p0, if_pos p1, if_neg hlf]
        unfold nxt
        split
        · rw [if_pos (by omega)]
        · split
          · rw [if_pos (by omega)]
          · rw [if_pos (by omega)]
      · refine Ev.succ (b.congr' (by simp) fun k => ?_)
        simp only [larchref17_Path.l0, leafF, Option.bind_some, decide_eq_true_eq]
        rw [if_pos p0, if_pos p1, if_neg hlf]
        unfold nxt
        split
        · rw [if_pos (by omega)]
        · split
          · rw [if_pos (by omega)]
          · rw [if_pos (by omega)]
def pathP (t : List S49) (key : Int) : List Int := 0 :: pathF t key t.length 0
theorem path_of {t : List S49} {l : List Int} (S : Sound t l) (key : Int) : Ev (fun k => table_path.f k t key) (pathP t key) ∧ Ev (fun k => larchref17_Path.f k t key) (pathP t key) := by
  have := path_both key t.length 0 l S.tr (by rw [S.len]; omega) S.small [0] (by have := S.small; simp; omega)
  exact this
theorem pathF_in {t : List S49} {l : List Int} (S : Sound t l) (key : Int) : ∀ d p, InT t p → ∀ c ∈ pathF t key d p, InT t c ∧ ∃ b ∈ p :: pathF t key d p, InT t b ∧ c ∈ kids t b
  | 0, p, hp, c, hc => by simp [pathF] at hc
  | d + 1, p, hp, c, hc => by
    unfold pathF at hc ⊢
    split at hc
    · simp at hc
    · rename_i hlf
      have hk := nxt_kid (key := key) hlf
      have hn := (S.kid hp hk).1
      rw [if_neg hlf]
      rcases List.mem_cons.1 hc with rfl | hc
      · exact ⟨hn, p, by simp, hp, hk⟩
      · obtain ⟨a, b, hb, hbi, hbk⟩ := pathF_in S key d _ hn c hc
        exact ⟨a, b, List.mem_cons_of_mem _ hb, hbi, hbk⟩
theorem pathP_in {t : List S49} {l : List Int} (S : Sound t l) (key : Int) : ∀ c ∈ pathP t key, InT t c := by
  intro c hc
  have h0 : InT t 0 := S.tr.inT
  rcases List.mem_cons.1 hc with rfl | hc
  · exact h0
  · exact (pathF_in S key _ _ h0 c hc).1
theorem path_up {t : List S49} {l : List Int} (S : Sound t l) (key : Int) {q : Int} {lq : List Int} (h : Tr t q lq) : ∀ x ∈ lq, x ∈ pathP t key → q ∈ pathP t key := by
  have up : ∀ c b, InT t b → c ∈ kids t b → c ∈ pathP t key → b ∈ pathP t key := by
    intro c b hb hc hp
    have h0 : InT t 0 := S.tr.inT
    rcases List.mem_cons.1 hp with e | hp
    · have := (S.kid hb hc).2
      omega
    · obtain ⟨_, b', h1, h2, h3⟩ := pathF_in S key _ _ h0 c hp
      rw [S.one hb h2 hc h3]
      exact h1
  induction h with
  | @leaf p hp hl =>
    intro x hx hpx
    simp at hx
    subst hx
    exact hpx
  | @node p l1 l2 hp hl h1 h2 ih1 ih2 =>
    intro x hx hpx
    have hk : kids t p = [(rd_T49 t p).f4, (rd_T49 t p).f5] := by unfold kids; rw [if_neg hl]
    simp only [List.mem_cons, List.mem_append] at hx
    rcases hx with rfl | hx | hx
    · exact hpx
    · exact up _ _ hp (by rw [hk]; simp) (ih1 x hx hpx)
    · exact up _ _ hp (by rw [hk]; simp) (ih2 x hx hpx)
theorem Tr.some_leaf {t : List S49} {q : Int} {lq : List Int} (h : Tr t q lq) : ∃ x ∈ lq, Leaf (rd_T49 t x) := by
  induction h with
  | @leaf p hp hl => exact ⟨p, by simp, hl⟩
  | @node p l1 l2 hp hl h1 h2 ih1 ih2 =>
    obtain ⟨x, a, b⟩ := ih1
    exact ⟨x, by simp [a], b⟩
theorem firstIn_ge (a : List Int) : ∀ ps : List Int, (∀ p ∈ ps, 0 ≤ p) → (0 ≤ firstIn a ps ↔ ∃ p ∈ ps, p ∈ a)
  | [], _ => by simp [firstIn]
  | p :: ps, h => by
    unfold firstIn
    have ih := firstIn_ge a ps (fun q hq => h q (List.mem_cons_of_mem _ hq))
    split
    · rename_i hp
      constructor
      · intro _; exact ⟨p, by simp, hp⟩
      · intro _; exact h p (by simp)
    · rename_i hp
      rw [ih]
      constructor
      · rintro ⟨q, a, b⟩; exact ⟨q, List.mem_cons_of_mem _ a, b⟩
      · rintro ⟨q, a, b⟩
        rcases List.mem_cons.1 a with rfl | a
        · exact absurd b hp
        · exact ⟨q, a, b⟩
theorem smallAll_of {t : List S49} (ht : t.length ≤ 100000) {l : List Int} (h : ∀ x ∈ l, InT t x) : smallAll l = true := by
  unfold smallAll
  rw [List.all_eq_true]
  intro x hx
  have := h x hx
  unfold InT at this
  simp
  omega
def OfInv (t : List S49) (lp : List Int) (j : Nat) (x : List Bool) : Prop := x.length = t.length ∧ ∀ c, InT t c → (rdOf false x c = true ↔ ∃ i : Nat, i < j ∧ rd lp (i : Int) = c)
theorem rFirst_l1 {t : List S49} {red of : List Bool} {ps bad : List Int} (hin : ∀ x ∈ ps, InT t x) (hr : red.length = t.length) (ho : of.length = t.length) (hl : ps.length ≤ 1000000)
    (hb : ∀ c, InT t c → (c ∈ bad ↔ rdOf false of c = true ∧ (rdOf false red c = true ∨ (rd_T49 t c).f2 > 1))) : ∀ d (j : Nat), j + d = ps.length → Ev (fun k => larchref17_First.l1 k t red of ps (j : Int)) (firstIn bad (ps.drop j), 0)
  | 0, j, hd => by
    refine Ev.succ ((Ev.const _).congr fun k => ?_)
    simp only [larchref17_First.l1]
    rw [if_neg (by omega), List.drop_eq_nil_of_le (by omega)]
    rfl
  | d + 1, j, hd => by
    have ih := rFirst_l1 hin hr ho hl hb d (j + 1) (by omega)
    have hm := hin _ (rd_mem (l := ps) (j := j) (by omega))
    have hbj := hb _ hm
    obtain ⟨p0, p1⟩ := hm
    have hdrop : ps.drop j = rd ps (j : Int) :: ps.drop (j + 1) := by
      rw [List.drop_eq_getElem_cons (by omega), rd_nat, List.getElem?_eq_getElem (by omega)]
      rfl
    rw [hdrop]
    unfold firstIn
    by_cases e : rd ps (j : Int) ∈ bad
    · rw [if_pos e]
      obtain ⟨e1, e2⟩ := hbj.1 e
      refine Ev.succ ((Ev.const _).congr fun k => ?_)
      simp only [larchref17_First.l1]
      rw [if_pos (by omega), if_pos (by omega), if_pos p0, if_pos (by omega), if_pos e1, if_pos (by omega)]
      by_cases e3 : rdOf false red (rd ps (j : Int)) = true
      · rw [if_pos e3]
      · rw [if_neg e3, if_pos p1, if_pos (e2.resolve_left e3)]
    · rw [if_neg e]
      refine Ev.succ (ih.congr fun k => ?_)
      simp only [larchref17_First.l1]
      rw [if_pos (by omega), if_pos (by omega), if_pos p0, if_pos (by omega)]
      by_cases e1 : rdOf false of (rd ps (j : Int)) = true
      · have e2 : ¬ (rdOf false red (rd ps (j : Int)) = true) := fun h => e (hbj.2 ⟨e1, .inl h⟩)
        have e3 : ¬ ((rd_T49 t (rd ps (j : Int))).f2 > 1) := fun h => e (hbj.2 ⟨e1, .inr h⟩)
        rw [if_pos e1, if_pos (by omega), if_neg e2, if_pos p1, if_neg e3, wrap_succ (by omega)]
      · rw [if_neg e1, wrap_succ (by omega)]
theorem rFirst_l0 {t : List S49} {lp : List Int} {red : List Bool} {key : Int} {v : Int × Int} (hin : ∀ x ∈ lp, InT t x) (hl : lp.length ≤ 100000) : ∀ d (j : Nat) (x : List Bool), j + d = lp.length → OfInv t lp j x → (∀ of, OfInv t lp lp.length of → Ev (fun k => (larchref17_Path.f k t key).bind fun t418 => larchref17_First.l1 k t red of t418 0) v) → Ev (fun k => larchref17_First.l0 k t key lp red x (j : Int)) v
  | 0, j, x, hd, hx, h => by
    have : j = lp.length := by omega
    subst this
    refine Ev.succ ((h x hx).congr fun k => ?_)
    simp only [larchref17_First.l0]
    rw [if_neg (by omega)]
  | d + 1, j, x, hd, hx, h => by
    obtain ⟨p0, p1⟩ := hin _ (rd_mem (l := lp) (j := j) (by omega))
    refine Ev.succ ((rFirst_l0 hin hl d (j + 1) (x.set (rd lp (j : Int)).toNat true) (by omega) ⟨by simp [hx.1], fun c hc => ?_⟩ h).congr fun k => ?_)
    · rw [rdB_set _ _ _ _ (by rw [hx.1]; exact ⟨p0, p1⟩) hc.1]
      by_cases e : c = rd lp (j : Int)
      · rw [if_pos e]
        exact ⟨fun _ => ⟨j, by omega, e.symm⟩, fun _ => rfl⟩
      · rw [if_neg e, hx.2 c hc]
        constructor
        · rintro ⟨i, a, b⟩; exact ⟨i, by omega, b⟩
        · rintro ⟨i, a, b⟩
          by_cases e2 : i = j
          · subst e2; exact absurd b.symm e
          · exact ⟨i, by omega, b⟩
    · simp only [larchref17_First.l0]
      rw [if_pos (by omega), if_pos (by omega), if_pos p0, if_pos (by rw [hx.1]; exact p1), wrap_succ (by omega)]
theorem first_both {t : List S49} {l lp rs os : List Int} (S : Sound t l) (hin : ∀ x ∈ lp, InT t x) (hlp : lp.length ≤ 100000) (cT : Ev (fun k => table_Check.f k t) 0) (kR : Ev (fun k => larchref17_keys.f k t) (lp, 0)) (hrs : rs = sel (isRed t lp) lp lp.length 0) (hos : os = sel (isOver t) lp lp.length 0)
    (wR : Ev (fun k => weigh_Reds.f k t) (rs, 0)) (wO : Ev (fun k => weigh_Overs.f k t) (os, 0)) (key : Int) : Ev (fun k => weigh_First.f k t key) (firstIn (rs ++ os) (pathP t key), 0) ∧ Ev (fun k => larchref17_First.f k t key) (firstIn (rs ++ os) (pathP t key), 0) := by
  have hsm := S.small
  have hmr : ∀ x, x ∈ rs ↔ x ∈ lp ∧ isRed t lp x = true := fun x => by rw [hrs]; exact mem_sel0
  have hmo : ∀ x, x ∈ os ↔ x ∈ lp ∧ isOver t x = true := fun x => by rw [hos]; exact mem_sel0
  have hrl : rs.length ≤ lp.length := by rw [hrs]; exact sel_le _ _ _ _
  have hol : os.length ≤ lp.length := by rw [hos]; exact sel_le _ _ _ _
  obtain ⟨pT, pR⟩ := path_of S key
  have hpl : (pathP t key).length ≤ 1000000 := by
    have := pathF_le t key t.length 0
    unfold pathP
    simp; omega
  constructor
  · unfold weigh_First.f
    refine Ev.bind wR ?_
    simp only [reduceIte]
    refine Ev.bind wO ?_
    refine Ev.congr (g := fun k => (table_Search.f k t key).bind fun p => if smallAll p.1 = true then some (firstIn (rs ++ os) p.1, 0) else none) ?_ fun k => ?_
    · unfold table_Search.f
      refine Ev.bind (x := (pathP t key, 0)) (Ev.bind cT ?_) ?_
      · simp only [reduceIte]
        exact Ev.bind pT (Ev.const _)
      · simp only [smallAll_of hsm (pathP_in S key), if_true]
        exact Ev.const _
    · simp only
      rw [if_pos ⟨smallAll_of hsm (fun x hx => by
        rcases List.mem_append.1 hx with h | h
        · exact hin x ((hmr x).1 h).1
        · exact hin x ((hmo x).1 h).1), by omega⟩]
  · obtain ⟨r, ra, rl, rb⟩ := rreds_of S hin hlp
    unfold larchref17_First.f
    refine Ev.bind kR ?_
    simp only [reduceIte]
    refine Ev.bind ra ?_
    refine Ev.congr (g := fun k => larchref17_First.l0 k t key lp r (List.replicate t.length false) 0) ?_ fun k => ?_
    · refine rFirst_l0 hin hlp lp.length 0 _ (by omega) ⟨by simp, fun c hc => ?_⟩ (fun of hof => ?_)
      · constructor
        · intro h
          exfalso
          unfold rdOf at h
          rw [List.getD_eq_getElem?_getD, List.getElem?_replicate] at h
          split at h <;> simp at h
        · rintro ⟨i, h, _⟩
          omega
      · refine Ev.bind pR ?_
        have := rFirst_l1 (t := t) (red := r) (of := of) (ps := pathP t key) (bad := rs ++ os) (pathP_in S key) rl hof.1 hpl (fun c hc => by
          rw [List.mem_append, hmr, hmo, hof.2 c hc, rb c hc]
          have hlpc : (∃ i : Nat, i < lp.length ∧ rd lp (i : Int) = c) ↔ c ∈ lp := ⟨fun ⟨i, a, b⟩ => b ▸ rd_mem a, fun h => mem_rd h⟩
          rw [hlpc]
          unfold isOver
          rw [decide_eq_true_eq]
          constructor
          · rintro (⟨a, b⟩ | ⟨a, b⟩)
            · exact ⟨a, .inl b⟩
            · exact ⟨a, .inr b⟩
          · rintro ⟨a, b | b⟩
            · exact .inl ⟨a, b⟩
            · exact .inr ⟨a, b⟩) (pathP t key).length 0 (by omega)
        simpa using this
    · rw [if_pos (by omega), if_pos (by omega)]
      rfl
def lv (t : List S49) (x : Int) : Bool := decide (Leaf (rd_T49 t x)) && ((rd_T49 t x).f1 == 0)
theorem leaves_go {t : List S49} {o : List Int} (hin : ∀ x ∈ o, InT t x) (hl : o.length ≤ 100000) : ∀ d (j : Nat) (out : List Int), j + d = o.length → out.length ≤ j → Ev (fun k => larchref17_Leaves.l0 k t out o (j : Int)) (out ++ sel (lv t) o d j)
  | 0, j, out, hd, ho => by
    refine Ev.succ ((Ev.const _).congr fun k => ?_)
    simp only [larchref17_Leaves.l0, sel, List.append_nil]
    rw [if_neg (by omega)]
  | d + 1, j, out, hd, ho => by
    obtain ⟨p0, p1⟩ := hin _ (rd_mem (l := o) (j := j) (by omega))
    simp only [sel]
    have hlv : lv t (rd o (j : Int)) = true ↔ Leaf (rd_T49 t (rd o (j : Int))) ∧ (rd_T49 t (rd o (j : Int))).f1 = 0 := by simp [lv]
    by_cases e : lv t (rd o (j : Int)) = true
    · rw [if_pos e]
      obtain ⟨e1, e2⟩ := hlv.1 e
      refine Ev.succ ((leaves_go hin hl d (j + 1) (out ++ [rd o (j : Int)]) (by omega) (by simp; omega)).congr' (by simp) fun k => ?_)
      simp only [larchref17_Leaves.l0, leafF, Option.bind_some, decide_eq_true_eq]
      rw [if_pos (by omega), if_pos (by omega), if_pos p0, if_pos p1, if_pos e1, if_pos e2, if_pos (by omega), wrap_succ (by omega)]
    · rw [if_neg e]
      refine Ev.succ ((leaves_go hin hl d (j + 1) out (by omega) (by omega)).congr fun k => ?_)
      simp only [larchref17_Leaves.l0, leafF, Option.bind_some, decide_eq_true_eq]
      rw [if_pos (by omega), if_pos (by omega), if_pos p0, if_pos p1]
      by_cases e1 : Leaf (rd_T49 t (rd o (j : Int)))
      · rw [if_pos e1, if_neg (fun h => e (hlv.2 ⟨e1, h⟩)), wrap_succ (by omega)]
      · rw [if_neg e1, wrap_succ (by omega)]
theorem leaves_of {t : List S49} {l : List Int} (S : Sound t l) : Ev (fun k => larchref17_Leaves.f k t) (sel (lv t) l l.length 0) := by
  have h1 := S.len
  have h2 := S.small
  unfold larchref17_Leaves.f
  refine Ev.bind (Order_of S.tr (by omega)) ?_
  have := leaves_go S.tr.all (by omega) l.length 0 [] (by omega) (by simp)
  simpa using this
def pairsL (t : List S49) (L : List Int) : Nat → Nat → List S39
  | 0, _ => []
  | d + 1, j => ⟨(rd_T49 t (rd L (j : Int))).f0, (rd_T49 t (rd L (j : Int))).f3⟩ :: pairsL t L d (j + 1)
theorem pairsL_length (t : List S49) (L : List Int) : ∀ d j, (pairsL t L d j).length = d
  | 0, _ => rfl
  | d + 1, j => by simp [pairsL, pairsL_length t L d (j + 1)]
theorem pairsL_rd (t : List S49) (L : List Int) : ∀ d (j i : Nat), i < d → (rd_T39 (pairsL t L d j) (i : Int)).f0 = (rd_T49 t (rd L ((j + i : Nat) : Int))).f0
  | 0, j, i, h => by omega
  | d + 1, j, i, h => by
    by_cases e : i = 0
    · subst e
      rfl
    · obtain ⟨m, rfl⟩ : ∃ m, i = m + 1 := ⟨i - 1, by omega⟩
      have := pairsL_rd t L d (j + 1) m (by omega)
      unfold rd_T39 at this ⊢
      rw [Int.toNat_natCast, List.getD_eq_getElem?_getD] at this ⊢
      simp only [pairsL, List.getElem?_cons_succ]
      rw [this]
      congr 3
      omega
theorem pairs_go {t : List S49} {L : List Int} (hin : ∀ x ∈ L, InT t x) (hl : L.length ≤ 100000) : ∀ d (j : Nat) (out : List S39), j + d = L.length → out.length ≤ j → Ev (fun k => larchref17_Pairs.l0 k t out L (j : Int)) (out ++ pairsL t L d j)
  | 0, j, out, hd, ho => by
    refine Ev.succ ((Ev.const _).congr fun k => ?_)
    simp only [larchref17_Pairs.l0, pairsL, List.append_nil]
    rw [if_neg (by omega)]
  | d + 1, j, out, hd, ho => by
    obtain ⟨p0, p1⟩ := hin _ (rd_mem (l := L) (j := j) (by omega))
    simp only [pairsL]
    refine Ev.succ ((pairs_go hin hl d (j + 1) (out ++ [⟨(rd_T49 t (rd L (j : Int))).f0, (rd_T49 t (rd L (j : Int))).f3⟩]) (by omega) (by simp; omega)).congr' (by simp) fun k => ?_)
    simp only [larchref17_Pairs.l0]
    rw [if_pos (by omega), if_pos (by omega), if_pos p0, if_pos p1, if_pos (by omega), wrap_succ (by omega)]
theorem ordered_go {t : List S49} {l L : List Int} (S : Sound t l) (hin : ∀ x ∈ L, InT t x) (hl : L.length ≤ 100000) : ∀ d (j : Nat), j + d = L.length → ∃ b, Ev (fun k => larchref17_Ordered.l0 k t L (j : Int)) b ∧ (b = true → ∀ i : Nat, j ≤ i → i < L.length → rd L (i : Int) ∈ pathP t (rd_T49 t (rd L (i : Int))).f0)
  | 0, j, hd => by
    refine ⟨true, Ev.succ ((Ev.const true).congr fun k => ?_), fun _ i a b => by omega⟩
    simp only [larchref17_Ordered.l0]
    rw [if_neg (by omega)]
  | d + 1, j, hd => by
    obtain ⟨p0, p1⟩ := hin _ (rd_mem (l := L) (j := j) (by omega))
    obtain ⟨b, hb, hi⟩ := ordered_go S hin hl d (j + 1) (by omega)
    obtain ⟨_, pR⟩ := path_of S (rd_T49 t (rd L (j : Int))).f0
    obtain ⟨P, hP⟩ : ∃ P, P = pathP t (rd_T49 t (rd L (j : Int))).f0 := ⟨_, rfl⟩
    rw [← hP] at pR
    have hpl : 0 < P.length ∧ P.length ≤ 1000000 := by
      have := pathF_le t (rd_T49 t (rd L (j : Int))).f0 t.length 0
      have := S.small
      rw [hP]
      unfold pathP
      simp; omega
    obtain ⟨m, hm⟩ : ∃ m, P.length = m + 1 := ⟨P.length - 1, by omega⟩
    have hw : wrap64 ((P.length : Int) - 1) = (m : Int) := by unfold wrap64; omega
    by_cases e : rd P (m : Int) = rd L (j : Int)
    · refine ⟨b, Ev.succ (Ev.congr (g := fun k => (larchref17_Path.f k t (rd_T49 t (rd L (j : Int))).f0).bind fun t446 => if 0 ≤ wrap64 ((t446.length : Int) - 1) then (if wrap64 ((t446.length : Int) - 1) < (t446.length : Int) then (if rd t446 (wrap64 ((t446.length : Int) - 1)) = rd L (j : Int) then larchref17_Ordered.l0 k t L ((j + 1 : Nat) : Int) else some false) else none) else none) (Ev.bind pR ?_) fun k => ?_), fun hbt i h1 h2 => ?_⟩
      · refine hb.congr fun k => ?_
        rw [hw, if_pos (by omega), if_pos (by omega), if_pos e]
      · simp only [larchref17_Ordered.l0]
        rw [if_pos (by omega), if_pos (by omega), if_pos p0, if_pos p1, wrap_succ (by omega)]
      · by_cases e2 : i = j
        · subst e2
          rw [← hP, ← e]
          exact rd_mem (by omega)
        · exact hi hbt i (by omega) h2
    · refine ⟨false, Ev.succ (Ev.congr (g := fun k => (larchref17_Path.f k t (rd_T49 t (rd L (j : Int))).f0).bind fun t446 => if 0 ≤ wrap64 ((t446.length : Int) - 1) then (if wrap64 ((t446.length : Int) - 1) < (t446.length : Int) then (if rd t446 (wrap64 ((t446.length : Int) - 1)) = rd L (j : Int) then larchref17_Ordered.l0 k t L ((j + 1 : Nat) : Int) else some false) else none) else none) (Ev.bind pR ?_) fun k => ?_), fun h => by simp at h⟩
      · refine (Ev.const false).congr fun k => ?_
        rw [hw, if_pos (by omega), if_pos (by omega), if_neg e]
      · simp only [larchref17_Ordered.l0]
        rw [if_pos (by omega), if_pos (by omega), if_pos p0, if_pos p1, wrap_succ (by omega)]
end Go.Proofs.Ytmmjkebboonnkaa.P
