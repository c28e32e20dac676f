/- P.weighMemory_holds, part 23 of 28: the contracts of the Go functions that the law calls, its own walk, and its plain law, for every input that the statement speaks of. -/
import Derived.Test.YtmmjkebboonnkaaMMe16
import Derived.Test.YtmmjkebboonnkaaMMe3
import Derived.Test.YtmmjkebboonnkaaMMe21
import Derived.Test.YtmmjkebboonnkaaMMe6
import Derived.Test.YtmmjkebboonnkaaMMe7
import Derived.Test.YtmmjkebboonnkaaMMe13
import Derived.Test.YtmmjkebboonnkaaMMe15
import Derived.Test.YtmmjkebboonnkaaMMe19
import Derived.Test.YtmmjkebboonnkaaMMe18
import Derived.Test.YtmmjkebboonnkaaMMe20
import Derived.Test.YtmmjkebboonnkaaMMe4
set_option linter.unusedVariables false
set_option linter.unusedSimpArgs false
/- P5 -/
namespace Go.Proofs.Ytmmjkebboonnkaa.P
open Go.RowKit Go.Proofs.YtmmjkebboonnkaaW.PrintWords Go.Proofs.YtmmjkebboonnkaaW.PrintLast Go.Proofs.YtmmjkebboonnkaaW.PrintMore
theorem fixed_at : larchlaw17_fixed.f 60 = some true := by kernel_rfl
theorem fixed_ev : Ev (fun k => larchlaw17_fixed.f k) true := Ev.of_mono 60 fixed_at (fun k => larchlaw17_fixed.mono k)
theorem sameInts_go (l : List Int) (hl : l.length ≤ 10000000) : ∀ d (j : Nat), j + d = l.length → Ev (fun k => larchref17_SameInts.l0 k l l (j : Int)) true
  | 0, j, hj => by
    refine Ev.succ ((Ev.const true).congr fun k => ?_)
    simp only [larchref17_SameInts.l0]
    rw [if_neg (by omega)]
  | d + 1, j, hj => by
    refine Ev.succ ((sameInts_go l hl d (j + 1) (by omega)).congr fun k => ?_)
    simp only [larchref17_SameInts.l0]
    rw [if_pos (by omega), if_pos (by omega), if_pos (by omega), if_pos trivial, wrap_succ (by omega)]
theorem sameInts_ev (l : List Int) (hl : l.length ≤ 10000000) : Ev (fun k => larchref17_SameInts.f k l l) true := by
  unfold larchref17_SameInts.f
  simp only [if_true]
  exact sameInts_go l hl l.length 0 (by omega)
theorem same_go (l : List S49) (hl : l.length ≤ 10000000) : ∀ d (j : Nat), j + d = l.length → Ev (fun k => larchref17_Same.l0 k l l (j : Int)) true
  | 0, j, hj => by
    refine Ev.succ ((Ev.const true).congr fun k => ?_)
    simp only [larchref17_Same.l0]
    rw [if_neg (by omega)]
  | d + 1, j, hj => by
    refine Ev.succ ((same_go l hl d (j + 1) (by omega)).congr fun k => ?_)
    simp only [larchref17_Same.l0]
    rw [if_pos (by omega), if_pos (by omega), if_pos (by omega), if_neg (by simp), wrap_succ (by omega)]
theorem same_ev (l : List S49) (hl : l.length ≤ 10000000) : Ev (fun k => larchref17_Same.f k l l) true := by
  unfold larchref17_Same.f
  simp only [if_true]
  exact same_go l hl l.length 0 (by omega)
end Go.Proofs.Ytmmjkebboonnkaa.P
/- P6 -/
namespace Go.Proofs.Ytmmjkebboonnkaa.P
open Go.RowKit Go.Proofs.YtmmjkebboonnkaaW.PrintWords Go.Proofs.YtmmjkebboonnkaaW.PrintLast Go.Proofs.YtmmjkebboonnkaaW.PrintMore
theorem check_of_sound {t : List S49} {l : List Int} (S : Sound t l) : Ev (fun k => table_Check.f k t) 0 := by
  have h1 := S.pos
  have h2 := S.small
  have h3 := S.len
  have hr := order_of S.tr S.nodup (by omega) (by omega)
  have := tc_good t (by omega) l hr t.length 0 (by omega) (fun i _ b => S.fm _ ⟨by omega, by omega⟩)
  rw [if_pos S.len] at this
  refine this.congr fun k => ?_
  unfold table_Check.f
  rw [if_neg (by omega), if_neg (by omega)]
  rfl
def Shape (t x : List S49) : Prop := x.length = t.length ∧ ∀ i, InT t i → (J49 x i).f0 = (J49 t i).f0 ∧ (J49 x i).f1 = (J49 t i).f1 ∧ (J49 x i).f3 = (J49 t i).f3 ∧ (J49 x i).f4 = (J49 t i).f4 ∧ (J49 x i).f5 = (J49 t i).f5 ∧ 0 ≤ (J49 x i).f2 ∧ (J49 x i).f2 ≤ 1000000
theorem Shape.start {t l} (S : Sound t l) : Shape t t := ⟨rfl, fun i hi => ⟨rfl, rfl, rfl, rfl, rfl, (S.fm i hi).1.1, (S.fm i hi).1.2⟩⟩
theorem rdT_set (x : List S49) (a i : Int) (v : S49) (ha : 0 ≤ a ∧ a < x.length) (hi : 0 ≤ i) : J49 (x.set a.toNat v) i = if i = a then v else J49 x i := by
  unfold J49
  rw [List.getD_eq_getElem?_getD, List.getElem?_set]
  by_cases e : i = a
  · subst e
    rw [if_pos rfl, if_pos (by omega), if_pos rfl]
    rfl
  · rw [if_neg (by omega), if_neg e, List.getD_eq_getElem?_getD]
def reW (x : List S49) (a w : Int) : List S49 := x.set a.toNat (⟨(J49 x a).f0, (J49 x a).f1, w, (J49 x a).f3, (J49 x a).f4, (J49 x a).f5⟩ : S49)
theorem Shape.step {t x} {a w : Int} (h : Shape t x) (ha : InT t a) (hw : 0 ≤ w ∧ w ≤ 1000000) : Shape t (reW x a w) := by
  obtain ⟨h1, h2⟩ := h
  refine ⟨by simp [reW, h1], fun i hi => ?_⟩
  unfold reW
  rw [rdT_set x a i _ (by rw [h1]; exact ha) hi.1]
  by_cases e : i = a
  · subst e
    rw [if_pos rfl]
    obtain ⟨q0, q1, q3, q4, q5, _⟩ := h2 i hi
    exact ⟨q0, q1, q3, q4, q5, hw.1, hw.2⟩
  · rw [if_neg e]
    exact h2 i hi
theorem Shape.tr {t x} (h : Shape t x) {p l} (ht : Tr t p l) : Tr x p l := by
  induction ht with
  | @leaf p hp hl =>
    obtain ⟨_, _, _, q4, q5, _⟩ := h.2 p hp
    exact .leaf ⟨hp.1, by rw [h.1]; exact hp.2⟩ ⟨q4.trans hl.1, q5.trans hl.2⟩
  | @node p l1 l2 hp hl h1 h2 ih1 ih2 =>
    obtain ⟨_, _, _, q4, q5, _⟩ := h.2 p hp
    refine .node ⟨hp.1, by rw [h.1]; exact hp.2⟩ (fun hh => hl ⟨q4.symm.trans hh.1, q5.symm.trans hh.2⟩) (by rw [q4]; exact ih1) (by rw [q5]; exact ih2)
theorem Shape.sound {t x l} (h : Shape t x) (S : Sound t l) : Sound x l := by
  refine ⟨by rw [h.1]; exact S.pos, by rw [h.1]; exact S.small, fun i hi => ?_, h.tr S.tr, S.nodup, by rw [h.1]; exact S.len⟩
  have hi' : InT t i := ⟨hi.1, by rw [← h.1]; exact hi.2⟩
  obtain ⟨q0, q1, q3, q4, q5, a, b⟩ := h.2 i hi'
  have hf := S.fm i hi'
  unfold Fm at hf ⊢
  rw [q0, q1, q3, q4, q5, h.1]
  exact ⟨⟨a, b⟩, hf.2⟩
theorem numGo_some (l : List Int) : ∀ d (i : Nat) (num : List Int), i + d = l.length → (∀ x ∈ l, 0 ≤ x ∧ x < (num.length : Int)) → ∃ r, numGo l d i num = some r ∧ r.length = num.length
  | 0, i, num, _, _ => ⟨num, rfl, rfl⟩
  | d + 1, i, num, hd, h => by
    obtain ⟨r, a, b⟩ := numGo_some l d (i + 1) (num.set (rd l (i : Int)).toNat i) (by omega) (fun x hx => by simpa using h x hx)
    refine ⟨r, ?_, by simpa using b⟩
    unfold numGo
    rw [if_pos (h _ (rd_mem (by omega)))]
    exact a
theorem outGo_some (t : List S49) (l num : List Int) (hin : ∀ x ∈ l, InT t x) (hk : ∀ p, InT t p → ∀ c ∈ kids t p, InT t c) (hn : num.length = t.length) (hl : l.length ≤ 900000) : ∀ d (i : Nat) (out : List S49), i + d = l.length → out.length = i → ∃ r, outGo t l num d i out = some r ∧ r.length = l.length
  | 0, i, out, hd, ho => ⟨out, rfl, by omega⟩
  | d + 1, i, out, hd, ho => by
    obtain ⟨r, a, b⟩ := outGo_some t l num hin hk hn hl d (i + 1) (out ++ [renum num (J49 t (rd l (i : Int)))]) (by omega) (by simp [ho])
    refine ⟨r, ?_, b⟩
    have hm := hin _ (rd_mem (l := l) (j := i) (by omega))
    unfold outGo
    rw [if_pos]
    · exact a
    · refine ⟨⟨hm.1, hm.2, by omega⟩, ?_⟩
      by_cases hlf : Leaf (J49 t (rd l (i : Int)))
      · exact .inl hlf
      · have k1 := hk _ hm (J49 t (rd l (i : Int))).f4 (by unfold kids; rw [if_neg hlf]; simp)
        have k2 := hk _ hm (J49 t (rd l (i : Int))).f5 (by unfold kids; rw [if_neg hlf]; simp)
        rw [hn]
        exact .inr ⟨k1, k2⟩
theorem sub_both {t : List S49} {l : List Int} (S : Sound t l) : ∃ r, Ev (fun k => table_sub.f k t 0) r ∧ Ev (fun k => larchref17_Sub.f k t 0) r ∧ r.length = t.length := by
  have h1 := S.pos
  have h2 := S.small
  have h3 := S.len
  obtain ⟨num, a, b⟩ := numGo_some l l.length 0 (List.replicate t.length 0) (by omega) (fun x hx => by have := S.tr.all x hx; simpa [InT] using this)
  obtain ⟨r, c, d⟩ := outGo_some t l num S.tr.all (fun p hp c hc => (S.kid hp hc).1) (by simpa using b) (by omega) l.length 0 [] (by omega) rfl
  have e : subOf t l = some r := by
    unfold subOf
    rw [if_pos (by omega), a]
    exact c
  refine ⟨r, ?_, ?_, by omega⟩
  · unfold table_sub.f
    refine Ev.bind (order_of S.tr S.nodup (by omega) (by omega)) ?_
    simp only [e]
    exact Ev.const r
  · unfold larchref17_Sub.f
    refine Ev.bind (Order_of S.tr (by omega)) ?_
    simp only [e]
    exact Ev.const r
theorem norm_both {t : List S49} {l : List Int} (S : Sound t l) : ∃ r, Ev (fun k => table_Norm.f k t) (r, 0) ∧ Ev (fun k => larchref17_Norm.f k t) r ∧ r.length = t.length := by
  obtain ⟨r, a, b, c⟩ := sub_both S
  refine ⟨r, ?_, ?_, c⟩
  · unfold table_Norm.f
    refine Ev.bind (check_of_sound S) ?_
    simp only [reduceIte]
    exact Ev.bind a (Ev.const _)
  · unfold larchref17_Norm.f
    exact Ev.bind b (Ev.const _)
def okW (w : Int) : Prop := 0 ≤ w ∧ w ≤ 1000000
instance (w : Int) : Decidable (okW w) := by unfold okW; infer_instance
def stores (lp ws : List Int) : Nat → Nat → List S49 → List S49
  | 0, _, x => x
  | d + 1, j, x => stores lp ws d (j + 1) (reW x (rd lp (j : Int)) (rd ws (j : Int)))
theorem stores_shape {t : List S49} {lp ws : List Int} (hin : ∀ x ∈ lp, InT t x) : ∀ d (j : Nat) x, j + d = lp.length → (∀ i : Nat, j ≤ i → i < lp.length → okW (rd ws (i : Int))) → Shape t x → Shape t (stores lp ws d j x)
  | 0, j, x, _, _, h => h
  | d + 1, j, x, hd, hw, h => stores_shape hin d (j + 1) _ (by omega) (fun i a b => hw i (by omega) b) (h.step (hin _ (rd_mem (by omega))) (hw j (Nat.le_refl _) (by omega)))
theorem wH_good {t : List S49} {lp ws : List Int} (hin : ∀ x ∈ lp, InT t x) (hlw : ws.length = lp.length) (hl : lp.length ≤ 1000000) (v : List S49 × Int) : ∀ d (j : Nat) x, j + d = lp.length → x.length = t.length → (∀ i : Nat, j ≤ i → i < lp.length → okW (rd ws (i : Int))) → Ev (fun k => (table_Norm.f k (stores lp ws d j x)).bind fun bt241 => some (bt241.1, bt241.2)) v → Ev (fun k => weigh_Heavy.l0 k lp x ws (ws.length : Int) (j : Int)) v
  | 0, j, x, hd, hx, hw, h => by
    refine Ev.succ (h.congr fun k => ?_)
    simp only [weigh_Heavy.l0, stores]
    rw [if_neg (by omega)]
  | d + 1, j, x, hd, hx, hw, h => by
    obtain ⟨w0, w1⟩ := hw j (Nat.le_refl _) (by omega)
    obtain ⟨p0, p1⟩ := hin _ (rd_mem (l := lp) (j := j) (by omega))
    refine Ev.succ ((wH_good hin hlw hl v d (j + 1) (reW x (rd lp (j : Int)) (rd ws (j : Int))) (by omega) (by simp [reW, hx]) (fun i a b => hw i (by omega) b) h).congr fun k => ?_)
    simp only [weigh_Heavy.l0]
    rw [if_pos (by omega), if_pos (by omega), if_pos (by omega), if_neg (by omega), if_neg (by omega), if_pos (by omega), if_pos p0, if_pos (by omega), wrap_succ (by omega)]
    rfl
theorem wH_bad {t : List S49} {lp ws : List Int} (hin : ∀ x ∈ lp, InT t x) (hlw : ws.length = lp.length) (hl : lp.length ≤ 1000000) : ∀ d (j : Nat) x, j + d = lp.length → x.length = t.length → (∃ i : Nat, j ≤ i ∧ i < lp.length ∧ ¬ okW (rd ws (i : Int))) → Ev (fun k => weigh_Heavy.l0 k lp x ws (ws.length : Int) (j : Int)) ([], 1)
  | 0, j, x, hd, hx, ⟨i, a, b, _⟩ => by omega
  | d + 1, j, x, hd, hx, ⟨i, a, b, c⟩ => by
    obtain ⟨p0, p1⟩ := hin _ (rd_mem (l := lp) (j := j) (by omega))
    by_cases hw : okW (rd ws (j : Int))
    · have hne : i ≠ j := fun e => c (e ▸ hw)
      refine Ev.succ ((wH_bad hin hlw hl d (j + 1) (reW x (rd lp (j : Int)) (rd ws (j : Int))) (by omega) (by simp [reW, hx]) ⟨i, by omega, b, c⟩).congr fun k => ?_)
      obtain ⟨w0, w1⟩ := hw
      simp only [weigh_Heavy.l0]
      rw [if_pos (by omega), if_pos (by omega), if_pos (by omega), if_neg (by omega), if_neg (by omega), if_pos (by omega), if_pos p0, if_pos (by omega), wrap_succ (by omega)]
      rfl
    · refine Ev.succ ((Ev.const ([], 1)).congr fun k => ?_)
      unfold okW at hw
      simp only [weigh_Heavy.l0]
      rw [if_pos (by omega), if_pos (by omega), if_pos (by omega)]
      by_cases h0 : rd ws (j : Int) < 0
      · rw [if_pos h0]
      · rw [if_neg h0, if_pos (by omega)]
theorem rH_l1 {t : List S49} {lp ws : List Int} (hin : ∀ x ∈ lp, InT t x) (hlw : ws.length = lp.length) (hl : lp.length ≤ 1000000) (v : List S49 × Int) : ∀ d (j : Nat) x, j + d = lp.length → x.length = t.length → Ev (fun k => (larchref17_Norm.f k (stores lp ws d j x)).bind fun t535 => some (t535, 0)) v → Ev (fun k => larchref17_Heavy.l1 k ws lp x (j : Int)) v
  | 0, j, x, hd, hx, h => by
    refine Ev.succ (h.congr fun k => ?_)
    simp only [larchref17_Heavy.l1, stores]
    rw [if_neg (by omega)]
  | d + 1, j, x, hd, hx, h => by
    obtain ⟨p0, p1⟩ := hin _ (rd_mem (l := lp) (j := j) (by omega))
    refine Ev.succ ((rH_l1 hin hlw hl v d (j + 1) (reW x (rd lp (j : Int)) (rd ws (j : Int))) (by omega) (by simp [reW, hx]) h).congr fun k => ?_)
    simp only [larchref17_Heavy.l1]
    rw [if_pos (by omega), if_pos (by omega), if_pos (by omega), if_pos p0, if_pos (by omega), wrap_succ (by omega)]
    rfl
theorem rH_bad (t : List S49) (lp ws : List Int) (hl : ws.length ≤ 10000000) : ∀ d (j : Nat), j + d = ws.length → Ev (fun k => larchref17_Heavy.l0 k t ws lp true (j : Int)) ([], 1)
  | 0, j, hd => by
    refine Ev.succ ((Ev.const ([], 1)).congr fun k => ?_)
    simp only [larchref17_Heavy.l0]
    rw [if_neg (by omega), if_pos trivial]
  | d + 1, j, hd => by
    refine Ev.succ ((rH_bad t lp ws hl d (j + 1) (by omega)).congr fun k => ?_)
    simp only [larchref17_Heavy.l0]
    rw [if_pos (by omega), if_pos trivial, wrap_succ (by omega)]
theorem rH_bad2 (t : List S49) (lp ws : List Int) (hl : ws.length ≤ 10000000) : ∀ d (j : Nat), j + d = ws.length → (∃ i : Nat, j ≤ i ∧ i < ws.length ∧ ¬ okW (rd ws (i : Int))) → Ev (fun k => larchref17_Heavy.l0 k t ws lp false (j : Int)) ([], 1)
  | 0, j, hd, ⟨i, a, b, _⟩ => by omega
  | d + 1, j, hd, ⟨i, a, b, c⟩ => by
    by_cases hw : okW (rd ws (j : Int))
    · have hne : i ≠ j := fun e => c (e ▸ hw)
      refine Ev.succ ((rH_bad2 t lp ws hl d (j + 1) (by omega) ⟨i, by omega, b, c⟩).congr fun k => ?_)
      obtain ⟨w0, w1⟩ := hw
      simp only [larchref17_Heavy.l0]
      rw [if_pos (by omega), if_neg (by simp), if_pos (by omega), if_neg (by omega), wrap_succ (by omega), decide_eq_false (by omega)]
    · refine Ev.succ ((rH_bad t lp ws hl d (j + 1) (by omega)).congr fun k => ?_)
      unfold okW at hw
      simp only [larchref17_Heavy.l0]
      rw [if_pos (by omega), if_neg (by simp), if_pos (by omega), wrap_succ (by omega)]
      by_cases h0 : rd ws (j : Int) < 0
      · rw [if_pos h0]
      · rw [if_neg h0, decide_eq_true (by omega)]
theorem rH_good (t : List S49) (lp ws : List Int) (hl : ws.length ≤ 10000000) (ht : t.length ≤ 1048576) (v : List S49 × Int) (h : Ev (fun k => larchref17_Heavy.l1 k ws lp t 0) v) : ∀ d (j : Nat), j + d = ws.length → (∀ i : Nat, j ≤ i → i < ws.length → okW (rd ws (i : Int))) → Ev (fun k => larchref17_Heavy.l0 k t ws lp false (j : Int)) v
  | 0, j, hd, hw => by
    refine Ev.succ (h.congr fun k => ?_)
    simp only [larchref17_Heavy.l0, Option.bind_some, List.length_nil, List.nil_append]
    rw [if_neg (by omega), if_neg (by simp), if_pos (by omega)]
  | d + 1, j, hd, hw => by
    refine Ev.succ ((rH_good t lp ws hl ht v h d (j + 1) (by omega) (fun i a b => hw i (by omega) b)).congr fun k => ?_)
    obtain ⟨w0, w1⟩ := hw j (Nat.le_refl _) (by omega)
    simp only [larchref17_Heavy.l0]
    rw [if_pos (by omega), if_neg (by simp), if_pos (by omega), if_neg (by omega), wrap_succ (by omega), decide_eq_false (by omega)]
theorem heavy_both (t : List S49) (ws : List Int) (ht : t.length ≤ 1048576) (hw : ws.length ≤ 1048576) : ∃ (r : List S49) (e : Int), Ev (fun k => weigh_Heavy.f k t ws) (r, e) ∧ Ev (fun k => larchref17_Heavy.f k t ws) (r, e) ∧ r.length ≤ 1048576 ∧ (∀ e', e' ≠ 0 → Ev (fun k => larchref17_keys.f k t) ([], e') → r = []) := by
  rcases keys_both t ht with ⟨e, he, kT, kR⟩ | ⟨lp, par, l, S, cT, cR, kT, kR, hlp, hcase⟩
  · refine ⟨[], e, ?_, ?_, by simp, fun _ _ _ => rfl⟩
    · unfold weigh_Heavy.f
      refine Ev.bind kT ?_
      simp only [if_neg he]
      exact Ev.const _
    · unfold larchref17_Heavy.f
      refine Ev.bind kR ?_
      simp only [if_neg he]
      exact Ev.const _
  · have hin : ∀ x ∈ lp, InT t x := by
      rcases hcase with ⟨h, _⟩ | ⟨p, K, _⟩
      · subst h; intro x hx; simp at hx
      · exact K.tr.all
    have hno : ∀ e' : Int, e' ≠ 0 → Ev (fun k => larchref17_keys.f k t) ([], e') → False := fun e' he' hk => he' (by
      have := kR.uniq hk
      simp only [Prod.mk.injEq] at this
      exact this.2.symm)
    by_cases hlen : ws.length = lp.length
    · by_cases hall : ∀ i : Nat, 0 ≤ i → i < lp.length → okW (rd ws (i : Int))
      · have hS := stores_shape (ws := ws) hin lp.length 0 t (by omega) hall (Shape.start S)
        obtain ⟨r, nT, nR, hr⟩ := norm_both (hS.sound S)
        refine ⟨r, 0, ?_, ?_, by rw [hr, hS.1]; exact ht, fun e' he' hk => (hno e' he' hk).elim⟩
        · unfold weigh_Heavy.f
          refine Ev.bind kT ?_
          refine Ev.congr (g := fun k => weigh_Heavy.l0 k lp t ws (ws.length : Int) 0) ?_ fun k => ?_
          · exact wH_good hin hlen (by omega) _ lp.length 0 t (by omega) rfl hall (Ev.bind nT (Ev.const _))
          · simp only [reduceIte, Option.bind_some, List.length_nil, List.nil_append]
            rw [if_pos (by omega), if_pos (by omega)]
        · unfold larchref17_Heavy.f
          refine Ev.bind kR ?_
          refine Ev.congr (g := fun k => larchref17_Heavy.l0 k t ws lp false 0) ?_ fun k => ?_
          · exact rH_good t lp ws (by omega) ht _ (rH_l1 hin hlen (by omega) _ lp.length 0 t (by omega) rfl (Ev.bind nR (Ev.const _))) ws.length 0 (by omega) (fun i a b => hall i a (by omega))
          · simp only [reduceIte]
            rw [show ((ws.length : Int) != (lp.length : Int)) = false by simp [hlen]]
      · have hbad : ∃ i : Nat, 0 ≤ i ∧ i < lp.length ∧ ¬ okW (rd ws (i : Int)) := by
          obtain ⟨i, hi⟩ := Classical.not_forall.1 hall
          obtain ⟨a, hi⟩ := Classical.not_imp.1 hi
          obtain ⟨b, c⟩ := Classical.not_imp.1 hi
          exact ⟨i, a, b, c⟩
        refine ⟨[], 1, ?_, ?_, by simp, fun _ _ _ => rfl⟩
        · unfold weigh_Heavy.f
          refine Ev.bind kT ?_
          refine Ev.congr (g := fun k => weigh_Heavy.l0 k lp t ws (ws.length : Int) 0) ?_ fun k => ?_
          · exact wH_bad (t := t) hin hlen (by omega) lp.length 0 t (by omega) rfl hbad
          · simp only [reduceIte, Option.bind_some, List.length_nil, List.nil_append]
            rw [if_pos (by omega), if_pos (by omega)]
        · unfold larchref17_Heavy.f
          refine Ev.bind kR ?_
          refine Ev.congr (g := fun k => larchref17_Heavy.l0 k t ws lp false 0) ?_ fun k => ?_
          · exact rH_bad2 t lp ws (by omega) ws.length 0 (by omega) (by rw [hlen]; exact hbad)
          · simp only [reduceIte]
            rw [show ((ws.length : Int) != (lp.length : Int)) = false by simp [hlen]]
    · refine ⟨[], 1, ?_, ?_, by simp, fun _ _ _ => rfl⟩
      · unfold weigh_Heavy.f
        refine Ev.bind kT ((Ev.const _).congr fun k => ?_)
        simp only [reduceIte]
        rw [if_neg (by omega)]
      · unfold larchref17_Heavy.f
        refine Ev.bind kR ?_
        refine Ev.congr (g := fun k => larchref17_Heavy.l0 k t ws lp true 0) ?_ fun k => ?_
        · exact rH_bad t lp ws (by omega) ws.length 0 (by omega)
        · simp only [reduceIte]
          rw [show ((ws.length : Int) != (lp.length : Int)) = true by simp; omega]
end Go.Proofs.Ytmmjkebboonnkaa.P
/- P7 -/
namespace Go.Proofs.Ytmmjkebboonnkaa.P
open Go.RowKit Go.Proofs.YtmmjkebboonnkaaW.PrintWords Go.Proofs.YtmmjkebboonnkaaW.PrintLast Go.Proofs.YtmmjkebboonnkaaW.PrintMore
theorem rd_nat (l : List Int) (j : Nat) : rd l (j : Int) = l[j]?.getD 0 := by unfold rd; rw [Int.toNat_natCast, List.getD_eq_getElem?_getD]
theorem Tr.parent {t p l} (h : Tr t p l) : ∀ j : Nat, 0 < j → j < l.length → ∃ i : Nat, i < j ∧ rd l (j : Int) ∈ kids t (rd l (i : Int)) := by
  induction h with
  | @leaf p h hl => intro j h0 h1; simp at h1; omega
  | @node p l1 l2 h hl h1 h2 ih1 ih2 =>
    intro j h0 hj
    have hk : kids t p = [(J49 t p).f4, (J49 t p).f5] := by unfold kids; rw [if_neg hl]
    obtain ⟨m, rfl⟩ : ∃ m, j = m + 1 := ⟨j - 1, by omega⟩
    simp only [List.length_cons, List.length_append] at hj
    have e0 : rd (p :: (l1 ++ l2)) ((0 : Nat) : Int) = p := by rw [rd_nat]; rfl
    have es : ∀ i : Nat, rd (p :: (l1 ++ l2)) ((i + 1 : Nat) : Int) = rd (l1 ++ l2) (i : Int) := fun i => by rw [rd_nat, rd_nat]; rfl
    have el : ∀ i : Nat, i < l1.length → rd (l1 ++ l2) (i : Int) = rd l1 (i : Int) := fun i hi => by rw [rd_nat, rd_nat, List.getElem?_append_left hi]
    have er : ∀ i : Nat, rd (l1 ++ l2) ((l1.length + i : Nat) : Int) = rd l2 (i : Int) := fun i => by rw [rd_nat, rd_nat, List.getElem?_append_right (by omega)]; congr 2; omega
    rw [es]
    by_cases hm : m < l1.length
    · rw [el m hm]
      by_cases hz : m = 0
      · subst hz
        obtain ⟨l', e⟩ := h1.head
        refine ⟨0, by omega, ?_⟩
        rw [e0, hk, e, rd_nat]
        simp
      · obtain ⟨i, a, b⟩ := ih1 m (by omega) hm
        refine ⟨i + 1, by omega, ?_⟩
        rw [es, el i (by omega)]
        exact b
    · obtain ⟨q, rfl⟩ : ∃ q, m = l1.length + q := ⟨m - l1.length, by omega⟩
      rw [er]
      by_cases hz : q = 0
      · subst hz
        obtain ⟨l', e⟩ := h2.head
        refine ⟨0, by omega, ?_⟩
        rw [e0, hk, e, rd_nat]
        simp
      · obtain ⟨i, a, b⟩ := ih2 q (by omega) (by omega)
        refine ⟨l1.length + i + 1, by omega, ?_⟩
        rw [es, er]
        exact b
theorem rd_inj {l : List Int} (hn : l.Nodup) {i j : Nat} (hi : i < l.length) (hj : j < l.length) (e : rd l (i : Int) = rd l (j : Int)) : i = j := by
  rw [rd_nat, rd_nat, List.getElem?_eq_getElem hi, List.getElem?_eq_getElem hj] at e
  simp only [Option.getD_some] at e
  rw [List.nodup_iff_pairwise_ne, List.pairwise_iff_getElem] at hn
  rcases Nat.lt_trichotomy i j with h | h | h
  · exact absurd e (hn i j hi hj h)
  · exact h
  · exact absurd e.symm (hn j i hj hi h)
theorem lt_of_kid {t : List S49} {l : List Int} (S : Sound t l) {p : Int} {lp : List Int} (h : Tr t p lp) (hn : lp.Nodup) {i j : Nat} (hi : i < lp.length) (hj : j < lp.length) (hk : rd lp (i : Int) ∈ kids t (rd lp (j : Int))) : j < i := by
  by_cases hz : i = 0
  · exfalso
    subst hz
    have hp : rd lp ((0 : Nat) : Int) = p := by
      obtain ⟨l', e⟩ := h.head
      rw [rd_nat, e]
      rfl
    rw [hp] at hk
    have hc := h.count p
    have h1 : lp.count p ≤ 1 := List.nodup_iff_count.1 hn p
    have h2 : 0 < (lp.flatMap (kids t)).count p := List.count_pos_iff.2 (List.mem_flatMap.2 ⟨_, rd_mem hj, hk⟩)
    rw [if_pos rfl] at hc
    omega
  · obtain ⟨i', a, b⟩ := h.parent i (by omega) hi
    have e := S.one (h.all _ (rd_mem (l := lp) (j := i') (by omega))) (h.all _ (rd_mem hj)) b hk
    have := rd_inj hn (by omega) hj e
    omega
structure PS (t : List S49) (lp : List Int) (s : List Int) : Prop where
  len : s.length = t.length
  z : 0 < lp.length → rd s (rd lp 0) = (J49 t (rd lp 0)).f2
  k : ∀ i : Nat, i < lp.length → ∀ c ∈ kids t (rd lp (i : Int)), rd s c = wrap64 (rd s (rd lp (i : Int)) + (J49 t c).f2)
def psGo (t : List S49) (lp : List Int) : Nat → Nat → List Int → List Int
  | 0, _, x => x
  | d + 1, j, x =>
    let y := if j = 0 then x.set (rd lp (j : Int)).toNat (J49 t (rd lp (j : Int))).f2 else x
    if Leaf (J49 t (rd lp (j : Int))) then psGo t lp d (j + 1) y
    else
      let y1 := y.set (J49 t (rd lp (j : Int))).f4.toNat (wrap64 (rd y (rd lp (j : Int)) + (J49 t (J49 t (rd lp (j : Int))).f4).f2))
      psGo t lp d (j + 1) (y1.set (J49 t (rd lp (j : Int))).f5.toNat (wrap64 (rd y1 (rd lp (j : Int)) + (J49 t (J49 t (rd lp (j : Int))).f5).f2)))
theorem ps_go {t : List S49} {l : List Int} (S : Sound t l) {p : Int} {lp : List Int} (h : Tr t p lp) (hn : lp.Nodup) (hl : lp.length ≤ 100000) : ∀ d (j : Nat) (x : List Int), j + d = lp.length → x.length = t.length →
    (0 < j → rd x (rd lp 0) = (J49 t (rd lp 0)).f2) → (∀ i : Nat, i < j → ∀ c ∈ kids t (rd lp (i : Int)), rd x c = wrap64 (rd x (rd lp (i : Int)) + (J49 t c).f2)) → PS t lp (psGo t lp d j x)
  | 0, j, x, hd, hx, hz, hk => by
    exact ⟨hx, fun h0 => hz (by omega), fun i hi => hk i (by omega)⟩
  | d + 1, j, x, hd, hx, hz, hk => by
    obtain ⟨q, hq⟩ : ∃ q, q = rd lp (j : Int) := ⟨_, rfl⟩
    have hqi : InT t q := by rw [hq]; exact h.all _ (rd_mem (by omega))
    obtain ⟨q0, q1⟩ := hqi
    -- the row behind the root's own store
    obtain ⟨y, hy⟩ : ∃ y, y = if j = 0 then x.set q.toNat (J49 t q).f2 else x := ⟨_, rfl⟩
    have hyl : y.length = t.length := by rw [hy]; split <;> simp [hx]
    have hyz : rd y (rd lp 0) = (J49 t (rd lp 0)).f2 := by
      rw [hy]
      by_cases e : j = 0
      · subst e
        have e2 : rd lp 0 = q := hq.symm
        rw [if_pos rfl, e2, rd_set _ _ _ _ (by omega) q0, if_pos rfl]
      · rw [if_neg e]
        exact hz (by omega)
    have hyk : ∀ i : Nat, i < j → ∀ c ∈ kids t (rd lp (i : Int)), rd y c = wrap64 (rd y (rd lp (i : Int)) + (J49 t c).f2) := by
      intro i hi
      rw [hy, if_neg (by omega)]
      exact hk i hi
    by_cases hlf : Leaf (J49 t q)
    · have hkq : kids t q = [] := by unfold kids; rw [if_pos hlf]
      have b := ps_go S h hn hl d (j + 1) y (by omega) hyl (fun _ => hyz) (fun i hi c hc => by
        by_cases e : i = j
        · subst e
          rw [← hq, hkq] at hc
          simp at hc
        · exact hyk i (by omega) c hc)
      simp only [psGo, ← hq]
      rw [if_pos hlf, ← hy]
      exact b
    · have hkq : kids t q = [(J49 t q).f4, (J49 t q).f5] := by unfold kids; rw [if_neg hlf]
      obtain ⟨⟨a0, a1⟩, -⟩ := S.left ⟨q0, q1⟩ hlf
      obtain ⟨⟨b0, b1⟩, -⟩ := S.right ⟨q0, q1⟩ hlf
      have hne : (J49 t q).f4 ≠ (J49 t q).f5 := by
        rcases (S.fm q ⟨q0, q1⟩).2.2 with hh | hh
        · exact absurd hh hlf
        · exact hh.2.2.2
      have hnot : ∀ i : Nat, i ≤ j → ∀ c ∈ kids t q, rd lp (i : Int) ≠ c := by
        intro i hi c hc e
        rw [hq, ← e] at hc
        have := lt_of_kid S h hn (i := i) (j := j) (by omega) (by omega) hc
        omega
      have n4 : q ≠ (J49 t q).f4 := by have := hnot j (Nat.le_refl _) _ (show (J49 t q).f4 ∈ kids t q by rw [hkq]; simp); rwa [← hq] at this
      have n5 : q ≠ (J49 t q).f5 := by have := hnot j (Nat.le_refl _) _ (show (J49 t q).f5 ∈ kids t q by rw [hkq]; simp); rwa [← hq] at this
      obtain ⟨y1, hy1⟩ : ∃ y1, y1 = y.set (J49 t q).f4.toNat (wrap64 (rd y q + (J49 t (J49 t q).f4).f2)) := ⟨_, rfl⟩
      obtain ⟨y2, hy2⟩ : ∃ y2, y2 = y1.set (J49 t q).f5.toNat (wrap64 (rd y1 q + (J49 t (J49 t q).f5).f2)) := ⟨_, rfl⟩
      have hl1 : y1.length = t.length := by rw [hy1]; simp [hyl]
      have hl2 : y2.length = t.length := by rw [hy2]; simp [hl1]
      have far : ∀ c, 0 ≤ c → c ≠ (J49 t q).f4 → c ≠ (J49 t q).f5 → rd y2 c = rd y c := by
        intro c hc0 hc4 hc5
        rw [hy2, rd_set _ _ _ _ (by omega) hc0, if_neg hc5, hy1, rd_set _ _ _ _ (by omega) hc0, if_neg hc4]
      have fq : rd y2 q = rd y q := far q q0 n4 n5
      have f1q : rd y1 q = rd y q := by rw [hy1, rd_set _ _ _ _ (by omega) q0, if_neg n4]
      have c4 : rd y2 (J49 t q).f4 = wrap64 (rd y q + (J49 t (J49 t q).f4).f2) := by
        rw [hy2, rd_set _ _ _ _ (by omega) a0, if_neg hne, hy1, rd_set _ _ _ _ (by omega) a0, if_pos rfl]
      have c5 : rd y2 (J49 t q).f5 = wrap64 (rd y q + (J49 t (J49 t q).f5).f2) := by
        rw [hy2, rd_set _ _ _ _ (by omega) b0, if_pos rfl, f1q]
      have hin : ∀ i : Nat, i < lp.length → InT t (rd lp (i : Int)) := fun i hi => h.all _ (rd_mem hi)
      have b := ps_go S h hn hl d (j + 1) y2 (by omega) hl2 (fun _ => by
        have e0 := hnot 0 (Nat.zero_le _)
        rw [far (rd lp 0) (hin 0 (by omega)).1 (e0 _ (by rw [hkq]; simp)) (e0 _ (by rw [hkq]; simp))]
        exact hyz) (fun i hi c hc => by
        by_cases e : i = j
        · subst e
          rw [← hq] at hc ⊢
          rw [hkq] at hc
          simp at hc
          rcases hc with rfl | rfl
          · rw [c4, fq]
          · rw [c5, fq]
        · have hci := S.kid (hin i (by omega)) hc
          have m4 : c ≠ (J49 t q).f4 := fun e2 => e (rd_inj hn (by omega) (by omega) (by
            rw [← hq]
            exact S.one (hin i (by omega)) ⟨q0, q1⟩ hc (by rw [hkq, e2]; simp)))
          have m5 : c ≠ (J49 t q).f5 := fun e2 => e (rd_inj hn (by omega) (by omega) (by
            rw [← hq]
            exact S.one (hin i (by omega)) ⟨q0, q1⟩ hc (by rw [hkq, e2]; simp)))
          have e0 := hnot i (by omega)
          rw [far c hci.1.1 m4 m5, far (rd lp (i : Int)) (hin i (by omega)).1 (e0 _ (by rw [hkq]; simp)) (e0 _ (by rw [hkq]; simp))]
          exact hyk i (by omega) c hc)
      simp only [psGo, ← hq]
      rw [if_neg hlf, ← hy, ← hy1, ← hy2]
      exact b
theorem ps_of {t : List S49} {l : List Int} (S : Sound t l) {p : Int} {lp : List Int} (h : Tr t p lp) (hn : lp.Nodup) (hl : lp.length ≤ 100000) : PS t lp (psGo t lp lp.length 0 (List.replicate t.length 0)) :=
  ps_go S h hn hl lp.length 0 (List.replicate t.length 0) (by omega) (by simp) (fun h => by omega) (fun i hi => by omega)
def leafSums (t : List S49) (lp s : List Int) : Nat → Nat → List Int
  | 0, _ => []
  | d + 1, j => if Leaf (J49 t (rd lp (j : Int))) then rd s (rd lp (j : Int)) :: leafSums t lp s d (j + 1) else leafSums t lp s d (j + 1)
theorem leafSums_le (t : List S49) (lp s : List Int) : ∀ d j, (leafSums t lp s d j).length ≤ d
  | 0, j => by simp [leafSums]
  | d + 1, j => by
    unfold leafSums
    have := leafSums_le t lp s d (j + 1)
    split <;> simp <;> omega
theorem wSums_go {t : List S49} {l : List Int} (S : Sound t l) {p : Int} {lp par s : List Int} (h : Tr t p lp) (hn : lp.Nodup) (hl : lp.length ≤ 100000) (hp : ParOK t par t.length) (hs : PS t lp s) : ∀ d (j : Nat) (f : Int → Int) (out : List Int), j + d = lp.length → out.length ≤ j → (∀ i : Nat, i < j → f (rd lp (i : Int)) = rd s (rd lp (i : Int))) → sumsGo t lp par d j f out = some (out ++ leafSums t lp s d j)
  | 0, j, f, out, hd, ho, hf => by simp [sumsGo, leafSums]
  | d + 1, j, f, out, hd, ho, hf => by
    have hin : ∀ i : Nat, i < lp.length → InT t (rd lp (i : Int)) := fun i hi => h.all _ (rd_mem hi)
    obtain ⟨p0, p1⟩ := hin j (by omega)
    have hw := (S.fm _ (hin j (by omega))).1
    have hsm := S.small
    have hneg := S.neg _ (hin j (by omega))
    have hpar : 0 < j → ∃ i : Nat, i < j ∧ rd par (rd lp (j : Int)) = rd lp (i : Int) ∧ rd lp (j : Int) ∈ kids t (rd lp (i : Int)) := by
      intro h0
      obtain ⟨i, a, b⟩ := h.parent j h0 (by omega)
      have hi := hin i (by omega)
      have := hp.2 (rd lp (i : Int)).toNat (by have := hi.1; have := hi.2; omega) (rd lp (j : Int)) (by rw [Int.toNat_of_nonneg hi.1]; exact b)
      rw [Int.toNat_of_nonneg hi.1] at this
      exact ⟨i, a, this, b⟩
    simp only [sumsGo]
    rw [if_pos]
    rotate_left
    · refine ⟨⟨p0, p1, by rw [hp.1]; exact p1, hw, by omega⟩, ?_⟩
      by_cases e : j = 0
      · exact .inl e
      · obtain ⟨i, a, b, c⟩ := hpar (by omega)
        have := hin i (by omega)
        rw [b]
        unfold InT at this
        exact .inr ⟨by omega, by omega⟩
    have hf2 : ∀ i : Nat, i < j + 1 → (if j = 0 then setAt f (rd lp (j : Int)) (J49 t (rd lp (j : Int))).f2 else setAt (setAt f (rd lp (j : Int)) (J49 t (rd lp (j : Int))).f2) (rd lp (j : Int)) (wrap64 ((setAt f (rd lp (j : Int)) (J49 t (rd lp (j : Int))).f2) (rd lp (j : Int)) + (setAt f (rd lp (j : Int)) (J49 t (rd lp (j : Int))).f2) (rd par (rd lp (j : Int)))))) (rd lp (i : Int)) = rd s (rd lp (i : Int)) := by
      intro i hi
      by_cases e : i = j
      · subst e
        by_cases e0 : i = 0
        · subst e0
          rw [if_pos rfl]
          unfold setAt
          rw [if_pos rfl]
          exact (hs.z (by omega)).symm
        · rw [if_neg e0]
          obtain ⟨i', a, b, c⟩ := hpar (by omega)
          have hne : rd lp (i' : Int) ≠ rd lp (i : Int) := fun e => by
            have := rd_inj hn (by omega) (by omega) e
            omega
          unfold setAt
          rw [if_pos rfl, if_pos rfl, b, if_neg hne, hf i' a, hs.k i' (by omega) _ c, Int.add_comm]
      · have hne : rd lp (i : Int) ≠ rd lp (j : Int) := fun e2 => e (rd_inj hn (by omega) (by omega) e2)
        split
        · omega
        · unfold setAt
          rw [if_neg hne, if_neg hne]
          exact hf i (by omega)
    have hj := hf2 j (by omega)
    have := wSums_go S h hn hl hp hs d (j + 1) _ (if (J49 t (rd lp (j : Int))).f4 < 0 then out ++ [rd s (rd lp (j : Int))] else out) (by omega) (by
      split
      · simp only [List.length_append, List.length_singleton]; omega
      · omega) hf2
    rw [hj, this]
    simp only [leafSums]
    by_cases hlf : Leaf (J49 t (rd lp (j : Int)))
    · rw [if_pos hlf, if_pos (by have := hlf.1; omega)]
      simp
    · rw [if_neg hlf, if_neg (by have := hneg.2 hlf; omega)]
theorem wsums_of {t : List S49} {l : List Int} (S : Sound t l) {p : Int} {lp par : List Int} (kT : Ev (fun k => weigh_keys.f k t) (lp, par, 0)) (hlp : lp.length ≤ 100000) (h : lp = [] ∨ (Tr t p lp ∧ lp.Nodup ∧ ParOK t par t.length)) : Ev (fun k => weigh_Sums.f k t) (leafSums t lp (psGo t lp lp.length 0 (List.replicate t.length 0)) lp.length 0, 0) := by
  unfold weigh_Sums.f
  refine Ev.bind kT ?_
  rcases h with h | ⟨h, hn, hp⟩
  · subst h
    simp only [reduceIte]
    exact Ev.const _
  · refine (Ev.const _).congr fun k => ?_
    simp only [reduceIte]
    rw [if_pos (by omega), wSums_go S h hn hlp hp (ps_of S h hn hlp) lp.length 0 _ [] (by omega) (by simp) (fun i hi => by omega)]
    simp
theorem wsums_ev (t : List S49) (ht : t.length ≤ 1048576) : ∃ (r : List Int) (e : Int), Ev (fun k => weigh_Sums.f k t) (r, e) ∧ r.length ≤ 100000 ∧ (e ≠ 0 → r = [] ∧ Ev (fun k => larchref17_keys.f k t) ([], e)) := by
  rcases keys_both t ht with ⟨e, he, kT, kR⟩ | ⟨lp, par, l, S, cT, cR, kT, kR, hlp, hcase⟩
  · refine ⟨[], e, ?_, by simp, fun _ => ⟨rfl, kR⟩⟩
    unfold weigh_Sums.f
    refine Ev.bind kT ?_
    simp only [if_neg he]
    exact Ev.const _
  · refine ⟨_, 0, wsums_of S (p := (J49 t (J49 t 0).f4).f4) kT hlp ?_, Nat.le_trans (leafSums_le _ _ _ _ _) hlp, fun h => absurd rfl h⟩
    rcases hcase with ⟨h, hc⟩ | ⟨p, K, hp, rR⟩
    · exact .inl h
    · have e := K.isP
      subst e
      exact .inr ⟨K.tr, K.sub.nodup S.nodup, hp⟩
end Go.Proofs.Ytmmjkebboonnkaa.P
/- P10 -/
namespace Go.Proofs.Ytmmjkebboonnkaa.P
open Go.RowKit Go.Proofs.YtmmjkebboonnkaaW.PrintWords Go.Proofs.YtmmjkebboonnkaaW.PrintLast Go.Proofs.YtmmjkebboonnkaaW.PrintMore
def sel (b : Int → Bool) (lp : List Int) : Nat → Nat → List Int
  | 0, _ => []
  | d + 1, j => if b (rd lp (j : Int)) = true then rd lp (j : Int) :: sel b lp d (j + 1) else sel b lp d (j + 1)
theorem sel_le (b : Int → Bool) (lp : List Int) : ∀ d j, (sel b lp d j).length ≤ d
  | 0, _ => Nat.le_refl _
  | d + 1, j => by
    unfold sel
    have := sel_le b lp d (j + 1)
    split <;> simp <;> omega
theorem mem_sel (b : Int → Bool) (lp : List Int) (x : Int) : ∀ d (j : Nat), j + d = lp.length → (x ∈ sel b lp d j ↔ ∃ i : Nat, j ≤ i ∧ i < lp.length ∧ rd lp (i : Int) = x ∧ b x = true)
  | 0, j, h => by
    simp only [sel, List.not_mem_nil, false_iff]
    rintro ⟨i, a, b, _⟩
    omega
  | d + 1, j, h => by
    have ih := mem_sel b lp x d (j + 1) (by omega)
    unfold sel
    constructor
    · intro hx
      split at hx
      · rename_i hb
        rcases List.mem_cons.1 hx with e | hx
        · exact ⟨j, Nat.le_refl _, by omega, e.symm, by rw [e]; exact hb⟩
        · obtain ⟨i, a, c⟩ := ih.1 hx
          exact ⟨i, by omega, c⟩
      · obtain ⟨i, a, c⟩ := ih.1 hx
        exact ⟨i, by omega, c⟩
    · rintro ⟨i, a, c, e, hb⟩
      by_cases hij : i = j
      · subst hij
        rw [if_pos (by rw [e]; exact hb), e]
        exact List.mem_cons_self
      · have := ih.2 ⟨i, by omega, c, e, hb⟩
        split
        · exact List.mem_cons_of_mem _ this
        · exact this
theorem mem_sel0 {b : Int → Bool} {lp : List Int} {x : Int} : x ∈ sel b lp lp.length 0 ↔ x ∈ lp ∧ b x = true := by
  rw [mem_sel b lp x lp.length 0 (by omega)]
  constructor
  · rintro ⟨i, _, a, rfl, h⟩
    exact ⟨rd_mem a, h⟩
  · rintro ⟨h1, h2⟩
    obtain ⟨i, a, e⟩ := mem_rd h1
    exact ⟨i, Nat.zero_le _, a, e, h2⟩
def isRed (t : List S49) (lp : List Int) (c : Int) : Bool := lp.any fun p => decide (c ∈ kids t p) && ((J49 t p).f2 == 0) && ((J49 t c).f2 == 0)
def isOver (t : List S49) (c : Int) : Bool := decide (1 < (J49 t c).f2)
theorem isRed_iff (t : List S49) (lp : List Int) (c : Int) : isRed t lp c = true ↔ ∃ i : Nat, i < lp.length ∧ c ∈ kids t (rd lp (i : Int)) ∧ (J49 t (rd lp (i : Int))).f2 = 0 ∧ (J49 t c).f2 = 0 := by
  unfold isRed
  simp only [List.any_eq_true, Bool.and_eq_true, decide_eq_true_eq, beq_iff_eq]
  constructor
  · rintro ⟨p, hp, ⟨a, b⟩, c⟩
    obtain ⟨i, h1, rfl⟩ := mem_rd hp
    exact ⟨i, h1, a, b, c⟩
  · rintro ⟨i, h1, a, b, c⟩
    exact ⟨_, rd_mem h1, ⟨a, b⟩, c⟩
theorem rdB_set (x : List Bool) (a i : Int) (v : Bool) (ha : 0 ≤ a ∧ a < x.length) (hi : 0 ≤ i) : rdOf false (x.set a.toNat v) i = if i = a then v else rdOf false x i := by
  unfold rdOf
  rw [List.getD_eq_getElem?_getD, List.getElem?_set]
  by_cases e : i = a
  · subst e
    rw [if_pos rfl, if_pos (by omega), if_pos rfl]
    rfl
  · rw [if_neg (by omega), if_neg e, List.getD_eq_getElem?_getD]
def RedInv (t : List S49) (lp : List Int) (j : Nat) (x : List Bool) : Prop := x.length = t.length ∧ ∀ c, InT t c → (rdOf false x c = true ↔ ∃ i : Nat, i < j ∧ c ∈ kids t (rd lp (i : Int)) ∧ (J49 t (rd lp (i : Int))).f2 = 0 ∧ (J49 t c).f2 = 0)
theorem rreds_go {t : List S49} {l : List Int} (S : Sound t l) {lp : List Int} (hin : ∀ x ∈ lp, InT t x) (hl : lp.length ≤ 100000) : ∀ d (j : Nat) (x : List Bool), j + d = lp.length → RedInv t lp j x → ∃ r, Ev (fun k => larchref17_reds.l0 k t lp x (j : Int)) r ∧ RedInv t lp lp.length r
  | 0, j, x, hd, hx => by
    have : j = lp.length := by omega
    subst this
    refine ⟨x, Ev.succ ((Ev.const x).congr fun k => ?_), hx⟩
    simp only [larchref17_reds.l0]
    rw [if_neg (by omega)]
  | d + 1, j, x, hd, hx => by
    obtain ⟨q, hq⟩ : ∃ q, q = rd lp (j : Int) := ⟨_, rfl⟩
    have hqi : InT t q := by rw [hq]; exact hin _ (rd_mem (by omega))
    obtain ⟨q0, q1⟩ := hqi
    obtain ⟨hxl, hxi⟩ := hx
    by_cases hlf : Leaf (J49 t q)
    · have hkq : kids t q = [] := by unfold kids; rw [if_pos hlf]
      obtain ⟨r, a, b⟩ := rreds_go S hin hl d (j + 1) x (by omega) ⟨hxl, fun c hc => by
        rw [hxi c hc]
        constructor
        · rintro ⟨i, h1, h2⟩
          exact ⟨i, by omega, h2⟩
        · rintro ⟨i, h1, h2, h3⟩
          by_cases e : i = j
          · subst e
            rw [← hq, hkq] at h2
            simp at h2
          · exact ⟨i, by omega, h2, h3⟩⟩
      refine ⟨r, Ev.succ (a.congr fun k => ?_), b⟩
      simp only [larchref17_reds.l0, leafF, Option.bind_some, decide_eq_true_eq, ← hq]
      rw [if_pos (by omega), if_pos (by omega), if_pos q0, if_pos q1, if_pos hlf, wrap_succ (by omega)]
    · have hkq : kids t q = [(J49 t q).f4, (J49 t q).f5] := by unfold kids; rw [if_neg hlf]
      obtain ⟨⟨a0, a1⟩, -⟩ := S.left ⟨q0, q1⟩ hlf
      obtain ⟨⟨b0, b1⟩, -⟩ := S.right ⟨q0, q1⟩ hlf
      by_cases hw : (J49 t q).f2 = 0
      · obtain ⟨r, a, b⟩ := rreds_go S hin hl d (j + 1) ((x.set (J49 t q).f4.toNat ((J49 t (J49 t q).f4).f2 == 0)).set (J49 t q).f5.toNat ((J49 t (J49 t q).f5).f2 == 0)) (by omega) ⟨by simp [hxl], fun c hc => by
          rw [rdB_set _ _ _ _ (by simp [hxl]; omega) hc.1, rdB_set _ _ _ _ (by omega) hc.1]
          have hold := hxi c hc
          by_cases e5 : c = (J49 t q).f5
          · rw [if_pos e5]
            subst e5
            simp only [beq_iff_eq]
            constructor
            · intro h
              exact ⟨j, by omega, by rw [← hq, hkq]; simp, by rw [← hq]; exact hw, h⟩
            · rintro ⟨i, _, _, _, h⟩
              exact h
          · rw [if_neg e5]
            by_cases e4 : c = (J49 t q).f4
            · rw [if_pos e4]
              subst e4
              simp only [beq_iff_eq]
              constructor
              · intro h
                exact ⟨j, by omega, by rw [← hq, hkq]; simp, by rw [← hq]; exact hw, h⟩
              · rintro ⟨i, _, _, _, h⟩
                exact h
            · rw [if_neg e4, hold]
              constructor
              · rintro ⟨i, h1, h2⟩
                exact ⟨i, by omega, h2⟩
              · rintro ⟨i, h1, h2, h3⟩
                by_cases e : i = j
                · subst e
                  rw [← hq, hkq] at h2
                  simp at h2
                  rcases h2 with h2 | h2
                  · exact absurd h2 e4
                  · exact absurd h2 e5
                · exact ⟨i, by omega, h2, h3⟩⟩
        refine ⟨r, Ev.succ (a.congr fun k => ?_), b⟩
        simp only [larchref17_reds.l0, leafF, Option.bind_some, decide_eq_true_eq, ← hq]
        rw [if_pos (by omega), if_pos (by omega), if_pos q0, if_pos q1, if_neg hlf, if_pos hw, if_pos a0, if_pos a1, if_pos (by omega), if_pos b0, if_pos b1, if_pos (by omega), wrap_succ (by omega)]
      · obtain ⟨r, a, b⟩ := rreds_go S hin hl d (j + 1) x (by omega) ⟨hxl, fun c hc => by
          rw [hxi c hc]
          constructor
          · rintro ⟨i, h1, h2⟩
            exact ⟨i, by omega, h2⟩
          · rintro ⟨i, h1, h2, h3, h4⟩
            by_cases e : i = j
            · subst e
              rw [← hq] at h3
              exact absurd h3 hw
            · exact ⟨i, by omega, h2, h3, h4⟩⟩
        refine ⟨r, Ev.succ (a.congr fun k => ?_), b⟩
        simp only [larchref17_reds.l0, leafF, Option.bind_some, decide_eq_true_eq, ← hq]
        rw [if_pos (by omega), if_pos (by omega), if_pos q0, if_pos q1, if_neg hlf, if_neg hw, wrap_succ (by omega)]
theorem rreds_of {t : List S49} {l : List Int} (S : Sound t l) {lp : List Int} (hin : ∀ x ∈ lp, InT t x) (hl : lp.length ≤ 100000) : ∃ r, Ev (fun k => larchref17_reds.f k t lp) r ∧ r.length = t.length ∧ ∀ c, InT t c → rdOf false r c = isRed t lp c := by
  obtain ⟨r, a, b⟩ := rreds_go S hin hl lp.length 0 (List.replicate t.length false) (by omega) ⟨by simp, fun c hc => by
    constructor
    · intro h
      exfalso
      unfold rdOf at h
      rw [List.getD_eq_getElem?_getD, List.getElem?_replicate] at h
      split at h <;> simp at h
    · rintro ⟨i, h, _⟩
      omega⟩
  refine ⟨r, a.congr fun k => ?_, b.1, fun c hc => ?_⟩
  · have := S.small
    unfold larchref17_reds.f
    rw [if_pos (by omega), if_pos (by omega)]
    rfl
  · rw [Bool.eq_iff_iff, b.2 c hc, isRed_iff]
theorem rReds_go {t : List S49} {lp : List Int} {x : List Bool} (hin : ∀ x ∈ lp, InT t x) (hl : lp.length ≤ 100000) (hx : x.length = t.length) (b : Int → Bool) (hb : ∀ c, InT t c → rdOf false x c = b c) : ∀ d (j : Nat) (out : List Int), j + d = lp.length → out.length ≤ j → Ev (fun k => larchref17_Reds.l0 k lp x out (j : Int)) (out ++ sel b lp d j, 0)
  | 0, j, out, hd, ho => by
    refine Ev.succ ((Ev.const _).congr fun k => ?_)
    simp only [larchref17_Reds.l0, sel, List.append_nil]
    rw [if_neg (by omega)]
  | d + 1, j, out, hd, ho => by
    obtain ⟨p0, p1⟩ := hin _ (rd_mem (l := lp) (j := j) (by omega))
    have hbj := hb _ ⟨p0, p1⟩
    simp only [sel]
    by_cases e : b (rd lp (j : Int)) = true
    · rw [if_pos e]
      refine Ev.succ ((rReds_go hin hl hx b hb d (j + 1) (out ++ [rd lp (j : Int)]) (by omega) (by simp; omega)).congr' (by simp) fun k => ?_)
      simp only [larchref17_Reds.l0]
      rw [if_pos (by omega), if_pos (by omega), if_pos p0, if_pos (by omega), if_pos (hbj.trans e), if_pos (by omega), wrap_succ (by omega)]
    · rw [if_neg e]
      refine Ev.succ ((rReds_go hin hl hx b hb d (j + 1) out (by omega) (by omega)).congr fun k => ?_)
      simp only [larchref17_Reds.l0]
      rw [if_pos (by omega), if_pos (by omega), if_pos p0, if_pos (by omega), if_neg (by rw [hbj]; exact e), wrap_succ (by omega)]
theorem rOvers_go {t : List S49} {lp : List Int} (hin : ∀ x ∈ lp, InT t x) (hl : lp.length ≤ 100000) : ∀ d (j : Nat) (out : List Int), j + d = lp.length → out.length ≤ j → Ev (fun k => larchref17_Overs.l0 k t lp out (j : Int)) (out ++ sel (isOver t) lp d j, 0)
  | 0, j, out, hd, ho => by
    refine Ev.succ ((Ev.const _).congr fun k => ?_)
    simp only [larchref17_Overs.l0, sel, List.append_nil]
    rw [if_neg (by omega)]
  | d + 1, j, out, hd, ho => by
    obtain ⟨p0, p1⟩ := hin _ (rd_mem (l := lp) (j := j) (by omega))
    simp only [sel]
    by_cases e : isOver t (rd lp (j : Int)) = true
    · rw [if_pos e]
      unfold isOver at e
      refine Ev.succ ((rOvers_go hin hl d (j + 1) (out ++ [rd lp (j : Int)]) (by omega) (by simp; omega)).congr' (by simp) fun k => ?_)
      simp only [larchref17_Overs.l0]
      rw [if_pos (by omega), if_pos (by omega), if_pos p0, if_pos p1, if_pos (by simpa using e), if_pos (by omega), wrap_succ (by omega)]
    · rw [if_neg e]
      unfold isOver at e
      refine Ev.succ ((rOvers_go hin hl d (j + 1) out (by omega) (by omega)).congr fun k => ?_)
      simp only [larchref17_Overs.l0]
      rw [if_pos (by omega), if_pos (by omega), if_pos p0, if_pos p1, if_neg (by simpa using e), wrap_succ (by omega)]
theorem pick_go {t : List S49} {lp par : List Int} (hin : ∀ x ∈ lp, InT t x) (hp : par.length = t.length) (hl : lp.length ≤ 100000) (is : Int → Int → Option Bool) (b : Int → Bool) (hb : ∀ j : Nat, j < lp.length → is (rd lp (j : Int)) (if j = 0 then -1 else rd par (rd lp (j : Int))) = some (b (rd lp (j : Int)))) : ∀ d (j : Nat) (out : List Int), j + d = lp.length → out.length ≤ j → pickGo is lp par d j out = some (out ++ sel b lp d j)
  | 0, j, out, hd, ho => by simp [pickGo, sel]
  | d + 1, j, out, hd, ho => by
    obtain ⟨p0, p1⟩ := hin _ (rd_mem (l := lp) (j := j) (by omega))
    simp only [pickGo, sel]
    rw [if_pos ⟨p0, by rw [hp]; exact p1, by omega⟩, hb j (by omega), Option.bind_some]
    by_cases e : b (rd lp (j : Int)) = true
    · rw [if_pos e, if_pos e, pick_go hin hp hl is b hb d (j + 1) _ (by omega) (by simp; omega)]
      simp
    · rw [if_neg e, if_neg e, pick_go hin hp hl is b hb d (j + 1) _ (by omega) (by omega)]
theorem redIs_eq {t : List S49} {l : List Int} (S : Sound t l) {p : Int} {lp par : List Int} (h : Tr t p lp) (hn : lp.Nodup) (hp : ParOK t par t.length) : ∀ j : Nat, j < lp.length → redIs t (rd lp (j : Int)) (if j = 0 then -1 else rd par (rd lp (j : Int))) = some (isRed t lp (rd lp (j : Int))) := by
  intro j hj
  have hin : ∀ i : Nat, i < lp.length → InT t (rd lp (i : Int)) := fun i hi => h.all _ (rd_mem hi)
  obtain ⟨p0, p1⟩ := hin j hj
  by_cases e : j = 0
  · subst e
    have hf : isRed t lp (rd lp ((0 : Nat) : Int)) = false := by
      rw [Bool.eq_false_iff]
      intro hh
      obtain ⟨i, h1, h2, _⟩ := (isRed_iff _ _ _).1 hh
      have := lt_of_kid S h hn hj h1 h2
      omega
    rw [hf, if_pos rfl]
    unfold redIs
    rw [if_pos (by decide)]
  · rw [if_neg e]
    obtain ⟨i, a, b⟩ := h.parent j (by omega) hj
    have hi := hin i (by omega)
    have hpar : rd par (rd lp (j : Int)) = rd lp (i : Int) := by
      have := hp.2 (rd lp (i : Int)).toNat (by have := hi.1; have := hi.2; omega) (rd lp (j : Int)) (by rw [Int.toNat_of_nonneg hi.1]; exact b)
      rwa [Int.toNat_of_nonneg hi.1] at this
    rw [hpar]
    unfold redIs
    rw [if_neg (by have := hi.1; omega), if_pos ⟨p0, p1⟩]
    have hiff : isRed t lp (rd lp (j : Int)) = true ↔ (J49 t (rd lp (j : Int))).f2 = 0 ∧ (J49 t (rd lp (i : Int))).f2 = 0 := by
      rw [isRed_iff]
      constructor
      · rintro ⟨i', h1, h2, h3, h4⟩
        have := S.one hi (hin i' h1) b h2
        rw [this]
        exact ⟨h4, h3⟩
      · rintro ⟨h1, h2⟩
        exact ⟨i, by omega, b, h2, h1⟩
    by_cases hw : (J49 t (rd lp (j : Int))).f2 = 0
    · rw [if_pos hw, if_pos hi.2]
      congr 1
      rw [Bool.eq_iff_iff, hiff]
      simp [hw]
    · rw [if_neg hw]
      congr 1
      rw [Bool.eq_iff_iff, hiff]
      simp [hw]
theorem overIs_eq {t : List S49} {lp par : List Int} (hin : ∀ x ∈ lp, InT t x) : ∀ j : Nat, j < lp.length → overIs t (rd lp (j : Int)) (if j = 0 then -1 else rd par (rd lp (j : Int))) = some (isOver t (rd lp (j : Int))) := by
  intro j hj
  have hi := hin _ (rd_mem hj)
  unfold overIs isOver
  rw [if_pos (show 0 ≤ rd lp (j : Int) ∧ rd lp (j : Int) < (t.length : Int) from hi)]
theorem faults_both (t : List S49) (ht : t.length ≤ 1048576) :
    (∃ e : Int, e ≠ 0 ∧ Ev (fun k => weigh_Reds.f k t) ([], e) ∧ Ev (fun k => larchref17_Reds.f k t) ([], e) ∧ Ev (fun k => weigh_Overs.f k t) ([], e) ∧ Ev (fun k => larchref17_Overs.f k t) ([], e) ∧ Ev (fun k => larchref17_keys.f k t) ([], e)) ∨
    (∃ l lp rs os, Sound t l ∧ (∀ x ∈ lp, InT t x) ∧ lp.length ≤ 100000 ∧ Ev (fun k => table_Check.f k t) 0 ∧ Ev (fun k => larchref17_keys.f k t) (lp, 0) ∧ rs = sel (isRed t lp) lp lp.length 0 ∧ os = sel (isOver t) lp lp.length 0 ∧ (lp = [] ∨ ∃ p, Keys t l p lp) ∧
      Ev (fun k => weigh_Reds.f k t) (rs, 0) ∧ Ev (fun k => larchref17_Reds.f k t) (rs, 0) ∧ Ev (fun k => weigh_Overs.f k t) (os, 0) ∧ Ev (fun k => larchref17_Overs.f k t) (os, 0)) := by
  rcases keys_both t ht with ⟨e, he, kT, kR⟩ | ⟨lp, par, l, S, cT, cR, kT, kR, hlp, hcase⟩
  · refine .inl ⟨e, he, ?_, ?_, ?_, ?_, kR⟩
    · unfold weigh_Reds.f pickedF
      refine Ev.bind kT ?_
      simp only [if_neg he]
      exact Ev.const _
    · unfold larchref17_Reds.f
      refine Ev.bind kR ?_
      simp only [if_neg he]
      exact Ev.const _
    · unfold weigh_Overs.f pickedF
      refine Ev.bind kT ?_
      simp only [if_neg he]
      exact Ev.const _
    · unfold larchref17_Overs.f
      refine Ev.bind kR ?_
      simp only [if_neg he]
      exact Ev.const _
  · have hin : ∀ x ∈ lp, InT t x := by
      rcases hcase with ⟨h, _⟩ | ⟨p, K, _⟩
      · subst h; intro x hx; simp at hx
      · exact K.tr.all
    obtain ⟨r, ra, rl, rb⟩ := rreds_of S hin hlp
    have hR : Ev (fun k => larchref17_Reds.f k t) (sel (isRed t lp) lp lp.length 0, 0) := by
      unfold larchref17_Reds.f
      refine Ev.bind kR ?_
      simp only [reduceIte]
      refine Ev.bind ra ?_
      have := rReds_go hin hlp rl _ rb lp.length 0 [] (by omega) (by simp)
      simpa using this
    have hO : Ev (fun k => larchref17_Overs.f k t) (sel (isOver t) lp lp.length 0, 0) := by
      unfold larchref17_Overs.f
      refine Ev.bind kR ?_
      simp only [reduceIte]
      have := rOvers_go hin hlp lp.length 0 [] (by omega) (by simp)
      simpa using this
    refine .inr ⟨l, lp, _, _, S, hin, hlp, cT, kR, rfl, rfl, ?_, ?_, hR, ?_, hO⟩
    · rcases hcase with ⟨h, _⟩ | ⟨p, K, _⟩
      · exact .inl h
      · exact .inr ⟨p, K⟩
    · unfold weigh_Reds.f pickedF
      refine Ev.bind kT ?_
      simp only [reduceIte]
      refine (Ev.const _).congr fun k => ?_
      rcases hcase with ⟨h, _⟩ | ⟨p, K, hp, _⟩
      · subst h; rfl
      · rw [pick_go hin hp.1 hlp _ _ (redIs_eq S K.tr (K.sub.nodup S.nodup) hp) lp.length 0 [] (by omega) (by simp)]
        simp
    · unfold weigh_Overs.f pickedF
      refine Ev.bind kT ?_
      simp only [reduceIte]
      refine (Ev.const _).congr fun k => ?_
      rcases hcase with ⟨h, _⟩ | ⟨p, K, hp, _⟩
      · subst h; rfl
      · rw [pick_go hin hp.1 hlp _ _ (overIs_eq hin) lp.length 0 [] (by omega) (by simp)]
        simp
end Go.Proofs.Ytmmjkebboonnkaa.P
/- P11 -/
namespace Go.Proofs.Ytmmjkebboonnkaa.P
open Go.RowKit Go.Proofs.YtmmjkebboonnkaaW.PrintWords Go.Proofs.YtmmjkebboonnkaaW.PrintLast Go.Proofs.YtmmjkebboonnkaaW.PrintMore
def vsum (t : List S49) (os : List Int) : Nat → Nat → Int → Int
  | 0, _, x => x
  | d + 1, j, x => vsum t os d (j + 1) (wrap64 (x + wrap64 ((J49 t (rd os (j : Int))).f2 - 1)))
theorem wViol_go {t : List S49} {os : List Int} (hin : ∀ x ∈ os, InT t x) (hl : os.length ≤ 100000) : ∀ d (j : Nat) x, j + d = os.length → Ev (fun k => weigh_Violations.l0 k t x os (os.length : Int) (j : Int)) (vsum t os d j x, 0)
  | 0, j, x, hd => by
    refine Ev.succ ((Ev.const _).congr fun k => ?_)
    simp only [weigh_Violations.l0, vsum]
    rw [if_neg (by omega)]
  | d + 1, j, x, hd => by
    obtain ⟨p0, p1⟩ := hin _ (rd_mem (l := os) (j := j) (by omega))
    refine Ev.succ ((wViol_go hin hl d (j + 1) _ (by omega)).congr fun k => ?_)
    simp only [weigh_Violations.l0]
    rw [if_pos (by omega), if_pos (by omega), if_pos (by omega), if_pos p0, if_pos p1, wrap_succ (by omega)]
theorem rViol_go {t : List S49} {os : List Int} (hin : ∀ x ∈ os, InT t x) (hl : os.length ≤ 100000) : ∀ d (j : Nat) x, j + d = os.length → Ev (fun k => larchref17_Violations.l0 k t os x (j : Int)) (vsum t os d j x, 0)
  | 0, j, x, hd => by
    refine Ev.succ ((Ev.const _).congr fun k => ?_)
    simp only [larchref17_Violations.l0, vsum]
    rw [if_neg (by omega)]
  | d + 1, j, x, hd => by
    obtain ⟨p0, p1⟩ := hin _ (rd_mem (l := os) (j := j) (by omega))
    refine Ev.succ ((rViol_go hin hl d (j + 1) _ (by omega)).congr fun k => ?_)
    simp only [larchref17_Violations.l0]
    rw [if_pos (by omega), if_pos (by omega), if_pos p0, if_pos p1, wrap_succ (by omega)]
def nxt (t : List S49) (key p : Int) : Int := if (J49 t p).f1 = 1 then (J49 t p).f4 else if key < (J49 t p).f0 then (J49 t p).f4 else (J49 t p).f5
def pathF (t : List S49) (key : Int) : Nat → Int → List Int
  | 0, _ => []
  | d + 1, p => if Leaf (J49 t p) then [] else nxt t key p :: pathF t key d (nxt t key p)
theorem pathF_le (t : List S49) (key : Int) : ∀ d p, (pathF t key d p).length ≤ d
  | 0, p => Nat.le_refl _
  | d + 1, p => by
    unfold pathF
    split
    · simp
    · have := pathF_le t key d (nxt t key p)
      simp; omega
theorem nxt_kid {t : List S49} {key p : Int} (hl : ¬ Leaf (J49 t p)) : nxt t key p ∈ kids t p := by
  unfold nxt kids
  rw [if_neg hl]
  split
  · simp
  · split <;> simp
theorem Tr.nxt {t : List S49} {key p : Int} {l : List Int} (h : Tr t p l) (hl : ¬ Leaf (J49 t p)) : ∃ l', Tr t (nxt t key p) l' ∧ l'.length < l.length := by
  cases h with
  | leaf _ hl' => exact absurd hl' hl
  | node _ _ h1 h2 =>
    rename_i l1 l2 _ _
    have p1 := h1.pos
    have p2 := h2.pos
    unfold P.nxt
    split
    · exact ⟨_, h1, by simp; omega⟩
    · split
      · exact ⟨_, h1, by simp; omega⟩
      · exact ⟨_, h2, by simp; omega⟩
theorem path_both {t : List S49} (key : Int) : ∀ d p l, Tr t p l → l.length ≤ d → d ≤ 100000 → ∀ out, out.length + d ≤ 1000000 → Ev (fun k => table_path.l0 k t key p out) (out ++ pathF t key d p) ∧ Ev (fun k => larchref17_Path.l0 k t key out p) (out ++ pathF t key d p) := by
  intro d
  induction d with
  | zero => intro p l h hl; have := h.pos; omega
  | succ d ih =>
    intro p l h hl hd out ho
    obtain ⟨p0, p1⟩ := h.inT
    by_cases hlf : Leaf (J49 t p)
    · simp only [pathF]
      rw [if_pos hlf, List.append_nil]
      constructor
      · refine Ev.succ ((Ev.const out).congr fun k => ?_)
        simp only [table_path.l0, isLeafF, Option.bind_some, decide_eq_true_eq]
        rw [if_pos p0, if_pos p1, if_pos hlf]
      · refine Ev.succ ((Ev.const out).congr fun k => ?_)
        simp only [larchref17_Path.l0, leafF, Option.bind_some, decide_eq_true_eq]
        rw [if_pos p0, if_pos p1, if_pos hlf]
    · obtain ⟨l', hl', hlen⟩ := h.nxt (key := key) hlf
      obtain ⟨a, b⟩ := ih _ l' hl' (by omega) (by omega) (out ++ [nxt t key p]) (by simp; omega)
      simp only [pathF]
      rw [if_neg hlf]
      constructor
      · refine Ev.succ (a.congr' (by simp) fun k => ?_)
        simp only [table_path.l0, isLeafF, Option.bind_some, decide_eq_true_eq]
        rw [if_pos p0, if_pos p1, if_neg hlf]
        unfold nxt
        split
        · rw [if_pos (by omega)]
        · split
          · rw [if_pos (by omega)]
          · rw [if_pos (by omega)]
      · refine Ev.succ (b.congr' (by simp) fun k => ?_)
        simp only [larchref17_Path.l0, leafF, Option.bind_some, decide_eq_true_eq]
        rw [if_pos p0, if_pos p1, if_neg hlf]
        unfold nxt
        split
        · rw [if_pos (by omega)]
        · split
          · rw [if_pos (by omega)]
          · rw [if_pos (by omega)]
def pathP (t : List S49) (key : Int) : List Int := 0 :: pathF t key t.length 0
theorem path_of {t : List S49} {l : List Int} (S : Sound t l) (key : Int) : Ev (fun k => table_path.f k t key) (pathP t key) ∧ Ev (fun k => larchref17_Path.f k t key) (pathP t key) := by
  have := path_both key t.length 0 l S.tr (by rw [S.len]; omega) S.small [0] (by have := S.small; simp; omega)
  exact this
theorem pathF_in {t : List S49} {l : List Int} (S : Sound t l) (key : Int) : ∀ d p, InT t p → ∀ c ∈ pathF t key d p, InT t c ∧ ∃ b ∈ p :: pathF t key d p, InT t b ∧ c ∈ kids t b
  | 0, p, hp, c, hc => by simp [pathF] at hc
  | d + 1, p, hp, c, hc => by
    unfold pathF at hc ⊢
    split at hc
    · simp at hc
    · rename_i hlf
      have hk := nxt_kid (key := key) hlf
      have hn := (S.kid hp hk).1
      rw [if_neg hlf]
      rcases List.mem_cons.1 hc with rfl | hc
      · exact ⟨hn, p, by simp, hp, hk⟩
      · obtain ⟨a, b, hb, hbi, hbk⟩ := pathF_in S key d _ hn c hc
        exact ⟨a, b, List.mem_cons_of_mem _ hb, hbi, hbk⟩
theorem pathP_in {t : List S49} {l : List Int} (S : Sound t l) (key : Int) : ∀ c ∈ pathP t key, InT t c := by
  intro c hc
  have h0 : InT t 0 := S.tr.inT
  rcases List.mem_cons.1 hc with rfl | hc
  · exact h0
  · exact (pathF_in S key _ _ h0 c hc).1
theorem smallAll_of {t : List S49} (ht : t.length ≤ 100000) {l : List Int} (h : ∀ x ∈ l, InT t x) : smallAll l = true := by
  unfold smallAll
  rw [List.all_eq_true]
  intro x hx
  have := h x hx
  unfold InT at this
  simp
  omega
def OfInv (t : List S49) (lp : List Int) (j : Nat) (x : List Bool) : Prop := x.length = t.length ∧ ∀ c, InT t c → (rdOf false x c = true ↔ ∃ i : Nat, i < j ∧ rd lp (i : Int) = c)
theorem rFirst_l1 {t : List S49} {red of : List Bool} {ps bad : List Int} (hin : ∀ x ∈ ps, InT t x) (hr : red.length = t.length) (ho : of.length = t.length) (hl : ps.length ≤ 1000000)
    (hb : ∀ c, InT t c → (c ∈ bad ↔ rdOf false of c = true ∧ (rdOf false red c = true ∨ (J49 t c).f2 > 1))) : ∀ d (j : Nat), j + d = ps.length → Ev (fun k => larchref17_First.l1 k t red of ps (j : Int)) (firstIn bad (ps.drop j), 0)
  | 0, j, hd => by
    refine Ev.succ ((Ev.const _).congr fun k => ?_)
    simp only [larchref17_First.l1]
    rw [if_neg (by omega), List.drop_eq_nil_of_le (by omega)]
    rfl
  | d + 1, j, hd => by
    have ih := rFirst_l1 hin hr ho hl hb d (j + 1) (by omega)
    have hm := hin _ (rd_mem (l := ps) (j := j) (by omega))
    have hbj := hb _ hm
    obtain ⟨p0, p1⟩ := hm
    have hdrop : ps.drop j = rd ps (j : Int) :: ps.drop (j + 1) := by
      rw [List.drop_eq_getElem_cons (by omega), rd_nat, List.getElem?_eq_getElem (by omega)]
      rfl
    rw [hdrop]
    unfold firstIn
    by_cases e : rd ps (j : Int) ∈ bad
    · rw [if_pos e]
      obtain ⟨e1, e2⟩ := hbj.1 e
      refine Ev.succ ((Ev.const _).congr fun k => ?_)
      simp only [larchref17_First.l1]
      rw [if_pos (by omega), if_pos (by omega), if_pos p0, if_pos (by omega), if_pos e1, if_pos (by omega)]
      by_cases e3 : rdOf false red (rd ps (j : Int)) = true
      · rw [if_pos e3]
      · rw [if_neg e3, if_pos p1, if_pos (e2.resolve_left e3)]
    · rw [if_neg e]
      refine Ev.succ (ih.congr fun k => ?_)
      simp only [larchref17_First.l1]
      rw [if_pos (by omega), if_pos (by omega), if_pos p0, if_pos (by omega)]
      by_cases e1 : rdOf false of (rd ps (j : Int)) = true
      · have e2 : ¬ (rdOf false red (rd ps (j : Int)) = true) := fun h => e (hbj.2 ⟨e1, .inl h⟩)
        have e3 : ¬ ((J49 t (rd ps (j : Int))).f2 > 1) := fun h => e (hbj.2 ⟨e1, .inr h⟩)
        rw [if_pos e1, if_pos (by omega), if_neg e2, if_pos p1, if_neg e3, wrap_succ (by omega)]
      · rw [if_neg e1, wrap_succ (by omega)]
theorem rFirst_l0 {t : List S49} {lp : List Int} {red : List Bool} {key : Int} {v : Int × Int} (hin : ∀ x ∈ lp, InT t x) (hl : lp.length ≤ 100000) : ∀ d (j : Nat) (x : List Bool), j + d = lp.length → OfInv t lp j x → (∀ of, OfInv t lp lp.length of → Ev (fun k => (larchref17_Path.f k t key).bind fun t418 => larchref17_First.l1 k t red of t418 0) v) → Ev (fun k => larchref17_First.l0 k t key lp red x (j : Int)) v
  | 0, j, x, hd, hx, h => by
    have : j = lp.length := by omega
    subst this
    refine Ev.succ ((h x hx).congr fun k => ?_)
    simp only [larchref17_First.l0]
    rw [if_neg (by omega)]
  | d + 1, j, x, hd, hx, h => by
    obtain ⟨p0, p1⟩ := hin _ (rd_mem (l := lp) (j := j) (by omega))
    refine Ev.succ ((rFirst_l0 hin hl d (j + 1) (x.set (rd lp (j : Int)).toNat true) (by omega) ⟨by simp [hx.1], fun c hc => ?_⟩ h).congr fun k => ?_)
    · rw [rdB_set _ _ _ _ (by rw [hx.1]; exact ⟨p0, p1⟩) hc.1]
      by_cases e : c = rd lp (j : Int)
      · rw [if_pos e]
        exact ⟨fun _ => ⟨j, by omega, e.symm⟩, fun _ => rfl⟩
      · rw [if_neg e, hx.2 c hc]
        constructor
        · rintro ⟨i, a, b⟩; exact ⟨i, by omega, b⟩
        · rintro ⟨i, a, b⟩
          by_cases e2 : i = j
          · subst e2; exact absurd b.symm e
          · exact ⟨i, by omega, b⟩
    · simp only [larchref17_First.l0]
      rw [if_pos (by omega), if_pos (by omega), if_pos p0, if_pos (by rw [hx.1]; exact p1), wrap_succ (by omega)]
theorem first_both {t : List S49} {l lp rs os : List Int} (S : Sound t l) (hin : ∀ x ∈ lp, InT t x) (hlp : lp.length ≤ 100000) (cT : Ev (fun k => table_Check.f k t) 0) (kR : Ev (fun k => larchref17_keys.f k t) (lp, 0)) (hrs : rs = sel (isRed t lp) lp lp.length 0) (hos : os = sel (isOver t) lp lp.length 0)
    (wR : Ev (fun k => weigh_Reds.f k t) (rs, 0)) (wO : Ev (fun k => weigh_Overs.f k t) (os, 0)) (key : Int) : Ev (fun k => weigh_First.f k t key) (firstIn (rs ++ os) (pathP t key), 0) ∧ Ev (fun k => larchref17_First.f k t key) (firstIn (rs ++ os) (pathP t key), 0) := by
  have hsm := S.small
  have hmr : ∀ x, x ∈ rs ↔ x ∈ lp ∧ isRed t lp x = true := fun x => by rw [hrs]; exact mem_sel0
  have hmo : ∀ x, x ∈ os ↔ x ∈ lp ∧ isOver t x = true := fun x => by rw [hos]; exact mem_sel0
  have hrl : rs.length ≤ lp.length := by rw [hrs]; exact sel_le _ _ _ _
  have hol : os.length ≤ lp.length := by rw [hos]; exact sel_le _ _ _ _
  obtain ⟨pT, pR⟩ := path_of S key
  have hpl : (pathP t key).length ≤ 1000000 := by
    have := pathF_le t key t.length 0
    unfold pathP
    simp; omega
  constructor
  · unfold weigh_First.f
    refine Ev.bind wR ?_
    simp only [reduceIte]
    refine Ev.bind wO ?_
    refine Ev.congr (g := fun k => (table_Search.f k t key).bind fun p => if smallAll p.1 = true then some (firstIn (rs ++ os) p.1, 0) else none) ?_ fun k => ?_
    · unfold table_Search.f
      refine Ev.bind (x := (pathP t key, 0)) (Ev.bind cT ?_) ?_
      · simp only [reduceIte]
        exact Ev.bind pT (Ev.const _)
      · simp only [smallAll_of hsm (pathP_in S key), if_true]
        exact Ev.const _
    · simp only
      rw [if_pos ⟨smallAll_of hsm (fun x hx => by
        rcases List.mem_append.1 hx with h | h
        · exact hin x ((hmr x).1 h).1
        · exact hin x ((hmo x).1 h).1), by omega⟩]
  · obtain ⟨r, ra, rl, rb⟩ := rreds_of S hin hlp
    unfold larchref17_First.f
    refine Ev.bind kR ?_
    simp only [reduceIte]
    refine Ev.bind ra ?_
    refine Ev.congr (g := fun k => larchref17_First.l0 k t key lp r (List.replicate t.length false) 0) ?_ fun k => ?_
    · refine rFirst_l0 hin hlp lp.length 0 _ (by omega) ⟨by simp, fun c hc => ?_⟩ (fun of hof => ?_)
      · constructor
        · intro h
          exfalso
          unfold rdOf at h
          rw [List.getD_eq_getElem?_getD, List.getElem?_replicate] at h
          split at h <;> simp at h
        · rintro ⟨i, h, _⟩
          omega
      · refine Ev.bind pR ?_
        have := rFirst_l1 (t := t) (red := r) (of := of) (ps := pathP t key) (bad := rs ++ os) (pathP_in S key) rl hof.1 hpl (fun c hc => by
          rw [List.mem_append, hmr, hmo, hof.2 c hc, rb c hc]
          have hlpc : (∃ i : Nat, i < lp.length ∧ rd lp (i : Int) = c) ↔ c ∈ lp := ⟨fun ⟨i, a, b⟩ => b ▸ rd_mem a, fun h => mem_rd h⟩
          rw [hlpc]
          unfold isOver
          rw [decide_eq_true_eq]
          constructor
          · rintro (⟨a, b⟩ | ⟨a, b⟩)
            · exact ⟨a, .inl b⟩
            · exact ⟨a, .inr b⟩
          · rintro ⟨a, b | b⟩
            · exact .inl ⟨a, b⟩
            · exact .inr ⟨a, b⟩) (pathP t key).length 0 (by omega)
        simpa using this
    · rw [if_pos (by omega), if_pos (by omega)]
      rfl
def lv (t : List S49) (x : Int) : Bool := decide (Leaf (J49 t x)) && ((J49 t x).f1 == 0)
theorem leaves_go {t : List S49} {o : List Int} (hin : ∀ x ∈ o, InT t x) (hl : o.length ≤ 100000) : ∀ d (j : Nat) (out : List Int), j + d = o.length → out.length ≤ j → Ev (fun k => larchref17_Leaves.l0 k t out o (j : Int)) (out ++ sel (lv t) o d j)
  | 0, j, out, hd, ho => by
    refine Ev.succ ((Ev.const _).congr fun k => ?_)
    simp only [larchref17_Leaves.l0, sel, List.append_nil]
    rw [if_neg (by omega)]
  | d + 1, j, out, hd, ho => by
    obtain ⟨p0, p1⟩ := hin _ (rd_mem (l := o) (j := j) (by omega))
    simp only [sel]
    have hlv : lv t (rd o (j : Int)) = true ↔ Leaf (J49 t (rd o (j : Int))) ∧ (J49 t (rd o (j : Int))).f1 = 0 := by simp [lv]
    by_cases e : lv t (rd o (j : Int)) = true
    · rw [if_pos e]
      obtain ⟨e1, e2⟩ := hlv.1 e
      refine Ev.succ ((leaves_go hin hl d (j + 1) (out ++ [rd o (j : Int)]) (by omega) (by simp; omega)).congr' (by simp) fun k => ?_)
      simp only [larchref17_Leaves.l0, leafF, Option.bind_some, decide_eq_true_eq]
      rw [if_pos (by omega), if_pos (by omega), if_pos p0, if_pos p1, if_pos e1, if_pos e2, if_pos (by omega), wrap_succ (by omega)]
    · rw [if_neg e]
      refine Ev.succ ((leaves_go hin hl d (j + 1) out (by omega) (by omega)).congr fun k => ?_)
      simp only [larchref17_Leaves.l0, leafF, Option.bind_some, decide_eq_true_eq]
      rw [if_pos (by omega), if_pos (by omega), if_pos p0, if_pos p1]
      by_cases e1 : Leaf (J49 t (rd o (j : Int)))
      · rw [if_pos e1, if_neg (fun h => e (hlv.2 ⟨e1, h⟩)), wrap_succ (by omega)]
      · rw [if_neg e1, wrap_succ (by omega)]
theorem leaves_of {t : List S49} {l : List Int} (S : Sound t l) : Ev (fun k => larchref17_Leaves.f k t) (sel (lv t) l l.length 0) := by
  have h1 := S.len
  have h2 := S.small
  unfold larchref17_Leaves.f
  refine Ev.bind (Order_of S.tr (by omega)) ?_
  have := leaves_go S.tr.all (by omega) l.length 0 [] (by omega) (by simp)
  simpa using this
end Go.Proofs.Ytmmjkebboonnkaa.P
/- P9 -/
namespace Go.Proofs.Ytmmjkebboonnkaa.P
open Go.RowKit Go.Proofs.YtmmjkebboonnkaaW.PrintWords Go.Proofs.YtmmjkebboonnkaaW.PrintLast Go.Proofs.YtmmjkebboonnkaaW.PrintMore
theorem rsums_go {t : List S49} {l : List Int} (S : Sound t l) {lp : List Int} (hin : ∀ x ∈ lp, InT t x) (hl : lp.length ≤ 100000) : ∀ d (j : Nat) (x : List Int), j + d = lp.length → x.length = t.length → Ev (fun k => larchref17_sums.l0 k t lp x (j : Int)) (psGo t lp d j x)
  | 0, j, x, hd, hx => by
    refine Ev.succ ((Ev.const x).congr fun k => ?_)
    simp only [larchref17_sums.l0]
    rw [if_neg (by omega)]
  | d + 1, j, x, hd, hx => by
    obtain ⟨q, hq⟩ : ∃ q, q = rd lp (j : Int) := ⟨_, rfl⟩
    have hqi : InT t q := by rw [hq]; exact hin _ (rd_mem (by omega))
    obtain ⟨q0, q1⟩ := hqi
    by_cases hlf : Leaf (J49 t q)
    · refine Ev.succ ((rsums_go S hin hl d (j + 1) (if j = 0 then x.set q.toNat (J49 t q).f2 else x) (by omega) (by split <;> simp [hx])).congr' ?_ fun k => ?_)
      · simp only [psGo, ← hq]
        rw [if_pos hlf]
      simp only [larchref17_sums.l0, leafF, Option.bind_some, decide_eq_true_eq, ← hq]
      rw [if_pos (by omega), if_pos (by omega), if_pos q0, if_pos q1]
      by_cases e : j = 0
      · subst e
        rw [if_pos (by rfl), if_pos (by omega), if_pos hlf, wrap_succ (by omega), if_pos rfl]
      · rw [if_neg (by omega), if_pos hlf, wrap_succ (by omega), if_neg e]
    · obtain ⟨⟨a0, a1⟩, -⟩ := S.left ⟨q0, q1⟩ hlf
      obtain ⟨⟨b0, b1⟩, -⟩ := S.right ⟨q0, q1⟩ hlf
      obtain ⟨y, hy⟩ : ∃ y, y = if j = 0 then x.set q.toNat (J49 t q).f2 else x := ⟨_, rfl⟩
      have hyl : y.length = t.length := by rw [hy]; split <;> simp [hx]
      refine Ev.succ ((rsums_go S hin hl d (j + 1) ((y.set (J49 t q).f4.toNat (wrap64 (rd y q + (J49 t (J49 t q).f4).f2))).set (J49 t q).f5.toNat (wrap64 (rd (y.set (J49 t q).f4.toNat (wrap64 (rd y q + (J49 t (J49 t q).f4).f2))) q + (J49 t (J49 t q).f5).f2))) (by omega) (by simp [hyl])).congr' ?_ fun k => ?_)
      · simp only [psGo, ← hq]
        rw [if_neg hlf, ← hy]
      simp only [larchref17_sums.l0, leafF, Option.bind_some, decide_eq_true_eq, ← hq]
      rw [if_pos (by omega), if_pos (by omega), if_pos q0, if_pos q1]
      by_cases e : j = 0
      · subst e
        rw [if_pos (by rfl), if_pos (by omega), if_neg hlf, if_pos a0, if_pos a1, if_pos (by omega), if_pos b0, if_pos b1, if_pos (by omega), wrap_succ (by omega), hy, if_pos rfl]
      · rw [if_neg (by omega), if_neg hlf, if_pos (by omega), if_pos a0, if_pos a1, if_pos (by omega), if_pos b0, if_pos b1, if_pos (by omega), wrap_succ (by omega), hy, if_neg e]
theorem rsums_of {t : List S49} {l : List Int} (S : Sound t l) {lp : List Int} (hin : ∀ x ∈ lp, InT t x) (hl : lp.length ≤ 100000) : Ev (fun k => larchref17_sums.f k t lp) (psGo t lp lp.length 0 (List.replicate t.length 0)) := by
  refine (rsums_go S hin hl lp.length 0 (List.replicate t.length 0) (by omega) (by simp)).congr fun k => ?_
  have := S.small
  unfold larchref17_sums.f
  rw [if_pos (by omega), if_pos (by omega)]
  rfl
theorem psGo_length (t : List S49) (lp : List Int) : ∀ d j x, (psGo t lp d j x).length = x.length
  | 0, j, x => rfl
  | d + 1, j, x => by
    simp only [psGo]
    split
    · rw [psGo_length]; split <;> simp
    · rw [psGo_length]; split <;> simp
theorem rSums_go {t : List S49} {lp s : List Int} (hin : ∀ x ∈ lp, InT t x) (hs : s.length = t.length) (hl : lp.length ≤ 100000) : ∀ d (j : Nat) (out : List Int), j + d = lp.length → out.length ≤ j → Ev (fun k => larchref17_Sums.l0 k t lp s out (j : Int)) (out ++ leafSums t lp s d j, 0)
  | 0, j, out, hd, ho => by
    refine Ev.succ ((Ev.const _).congr fun k => ?_)
    simp only [larchref17_Sums.l0, leafSums, List.append_nil]
    rw [if_neg (by omega)]
  | d + 1, j, out, hd, ho => by
    obtain ⟨p0, p1⟩ := hin _ (rd_mem (l := lp) (j := j) (by omega))
    by_cases hlf : Leaf (J49 t (rd lp (j : Int)))
    · refine Ev.succ (Ev.congr (g := fun k => larchref17_Sums.l0 k t lp s (out ++ [rd s (rd lp (j : Int))]) ((j + 1 : Nat) : Int)) ?_ fun k => ?_)
      · have := rSums_go hin hs hl d (j + 1) (out ++ [rd s (rd lp (j : Int))]) (by omega) (by simp; omega)
        simp only [leafSums]
        rw [if_pos hlf]
        simpa using this
      · simp only [larchref17_Sums.l0, leafF, Option.bind_some, decide_eq_true_eq]
        rw [if_pos (by omega), if_pos (by omega), if_pos p0, if_pos p1, if_pos hlf, if_pos (by omega), if_pos (by omega), wrap_succ (by omega)]
    · refine Ev.succ (Ev.congr (g := fun k => larchref17_Sums.l0 k t lp s out ((j + 1 : Nat) : Int)) ?_ fun k => ?_)
      · have := rSums_go hin hs hl d (j + 1) out (by omega) (by omega)
        simp only [leafSums]
        rw [if_neg hlf]
        exact this
      · simp only [larchref17_Sums.l0, leafF, Option.bind_some, decide_eq_true_eq]
        rw [if_pos (by omega), if_pos (by omega), if_pos p0, if_pos p1, if_neg hlf, wrap_succ (by omega)]
theorem sums_both (t : List S49) (ht : t.length ≤ 1048576) : ∃ (r : List Int) (e : Int), Ev (fun k => weigh_Sums.f k t) (r, e) ∧ Ev (fun k => larchref17_Sums.f k t) (r, e) ∧ r.length ≤ 100000 ∧ (e ≠ 0 → r = [] ∧ Ev (fun k => larchref17_keys.f k t) ([], e)) := by
  rcases keys_both t ht with ⟨e, he, kT, kR⟩ | ⟨lp, par, l, S, cT, cR, kT, kR, hlp, hcase⟩
  · refine ⟨[], e, ?_, ?_, by simp, fun _ => ⟨rfl, kR⟩⟩
    · unfold weigh_Sums.f
      refine Ev.bind kT ?_
      simp only [if_neg he]
      exact Ev.const _
    · unfold larchref17_Sums.f
      refine Ev.bind kR ?_
      simp only [if_neg he]
      exact Ev.const _
  · have hin : ∀ x ∈ lp, InT t x := by
      rcases hcase with ⟨h, _⟩ | ⟨p, K, _⟩
      · subst h; intro x hx; simp at hx
      · exact K.tr.all
    refine ⟨_, 0, wsums_of S (p := (J49 t (J49 t 0).f4).f4) kT hlp ?_, ?_, Nat.le_trans (leafSums_le _ _ _ _ _) hlp, fun h => absurd rfl h⟩
    · rcases hcase with ⟨h, hc⟩ | ⟨p, K, hp, rR⟩
      · exact .inl h
      · have e := K.isP
        subst e
        exact .inr ⟨K.tr, K.sub.nodup S.nodup, hp⟩
    · unfold larchref17_Sums.f
      refine Ev.bind kR ?_
      simp only [reduceIte]
      refine Ev.bind (rsums_of S hin hlp) ?_
      have := rSums_go (s := psGo t lp lp.length 0 (List.replicate t.length 0)) hin (by rw [psGo_length]; simp) hlp lp.length 0 [] (by omega) (by simp)
      simpa using this
end Go.Proofs.Ytmmjkebboonnkaa.P
