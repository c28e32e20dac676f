/- P.eventPlaces_holds, part 19 of 19: the contracts of the Go functions that the law calls, its own walk, and its plain law, for every input that the statement speaks of. -/
import Derived.Test.YtagdkmcgepidoaaMPlaces12
import Derived.Test.YtagdkmcgepidoaaMPlaces17
import Derived.Test.YtagdkmcgepidoaaMPlaces11
import Derived.Test.YtagdkmcgepidoaaMPlaces16
import Derived.Test.YtagdkmcgepidoaaMPlaces9
import Derived.Test.YtagdkmcgepidoaaMPlaces4
set_option linter.unusedVariables false
set_option linter.unusedSimpArgs false
/- P2 -/
namespace Go.Proofs.Ytagdkmcgepidoaa.P
open Go.RowKit Go.Proofs.YtagdkmcgepidoaaW.PrintWords Go.Proofs.YtagdkmcgepidoaaW.PrintLast Go.Proofs.YtagdkmcgepidoaaW.PrintMore
theorem known_ok : larchlaw05_known.f = some true := by kernel_rfl
theorem rd38_mem (r : List S38) (i : Int) (hi : 0 ≤ i ∧ i < r.length) : J38 r i ∈ r := by
  unfold J38
  rw [List.getD_eq_getElem?_getD, List.getElem?_eq_getElem (by omega)]
  exact List.getElem_mem _
theorem ahead_both (l0 : List S67) (hp : ∀ e ∈ l0, e.f3.f3.length ≤ 1048576) (a b : Int) : ∃ (v : Bool) (e : Int), event_Ahead.f l0 a b = some (v, e) ∧ Ev (fun k => larchref05_Ahead.f k l0 a b) (v, e) := by
  obtain ⟨r, c, hE, hR, -, -, h0⟩ := Calls_both l0 hp
  by_cases e0 : c = 0
  rotate_left
  · refine ⟨false, c, ?_, ?_⟩
    · unfold event_Ahead.f
      rw [hE]
      simp only [Option.bind_some, if_neg e0]
    · unfold larchref05_Ahead.f
      refine Ev.bind hR ?_
      simp only [if_neg e0]
      exact Ev.const _
  subst e0
  obtain ⟨hl, hk⟩ := h0 rfl
  by_cases hin : (0 ≤ a ∧ a < r.length) ∧ 0 ≤ b ∧ b < r.length
  · obtain ⟨⟨a0, a1⟩, b0, b1⟩ := hin
    refine ⟨decide (0 ≤ (J38 r a).f4 ∧ (J38 r a).f4 < (J38 r b).f3), 0, ?_, ?_⟩
    · unfold event_Ahead.f event_ahead.f
      rw [hE]
      simp only [Option.bind_some, if_true]
      rw [if_neg (by omega), if_neg (by omega), if_neg (by omega), if_neg (by omega), if_pos a0, if_pos a1, if_pos b0, if_pos b1]
      by_cases h4 : (J38 r a).f4 ≥ 0
      · rw [if_pos h4]
        simp only [Option.bind_some]
        have h5 : (0 ≤ (J38 r a).f4 ∧ (J38 r a).f4 < (J38 r b).f3) ↔ (J38 r a).f4 < (J38 r b).f3 := ⟨fun h => h.2, fun h => ⟨h4, h⟩⟩
        simp only [h5]
      · rw [if_neg h4]
        simp only [Option.bind_some]
        rw [decide_eq_false (fun h => h4 h.1)]
    · unfold larchref05_Ahead.f
      refine Ev.bind hR ((Ev.const _).congr fun k => ?_)
      simp only [if_true, List.length_map]
      rw [if_neg (by omega), if_neg (by omega), if_neg (by omega), if_neg (by omega)]
      unfold larchref05_before.f
      rw [if_pos a0, if_pos (by simpa using a1), rd76_map r a ⟨a0, a1⟩]
      rcases hk.tw _ (rd38_mem r a ⟨a0, a1⟩) with h4 | h4
      · rw [if_pos (show (conv (J38 r a)).f4 = -1 from h4), decide_eq_false (by omega)]
        rfl
      · rw [if_neg (show ¬ ((conv (J38 r a)).f4 = -1) from fun h => by have : (J38 r a).f4 = -1 := h; omega), if_pos b0, if_pos (by simpa using b1), rd76_map r b ⟨b0, b1⟩]
        simp only [Option.bind_some]
        have h5 : (0 ≤ (J38 r a).f4 ∧ (J38 r a).f4 < (J38 r b).f3) ↔ (J38 r a).f4 < (J38 r b).f3 := ⟨fun h => h.2, fun h => ⟨h4, h⟩⟩
        simp only [h5]
        rfl
  · refine ⟨false, 1, ?_, ?_⟩
    · unfold event_Ahead.f
      rw [hE]
      simp only [Option.bind_some, if_true]
      by_cases c1 : a < 0
      · rw [if_pos c1]
      rw [if_neg c1]
      by_cases c2 : b < 0
      · rw [if_pos c2]
      rw [if_neg c2]
      by_cases c3 : a ≥ (r.length : Int)
      · rw [if_pos c3]
      rw [if_neg c3, if_pos (by omega)]
    · unfold larchref05_Ahead.f
      refine Ev.bind hR ((Ev.const _).congr fun k => ?_)
      simp only [if_true, List.length_map]
      by_cases c1 : a < 0
      · rw [if_pos c1]
      rw [if_neg c1]
      by_cases c3 : a ≥ (r.length : Int)
      · rw [if_pos c3]
      rw [if_neg c3]
      by_cases c2 : b < 0
      · rw [if_pos c2]
      rw [if_neg c2, if_pos (by omega)]
def pnd (r : List S38) : Nat → Nat → List Int → List Int
  | 0, _, out => out
  | d + 1, j, out => if (J38 r (j : Int)).f4 < 0 then pnd r d (j + 1) (out ++ [(j : Int)]) else pnd r d (j + 1) out
theorem pnd_event (r : List S38) (hr : r.length ≤ 100000) : ∀ d (j : Nat) (out : List Int), j + d = r.length → out.length ≤ j → Ev (fun k => event_Pending.l0 k out r (r.length : Int) (j : Int)) (pnd r d j out, 0)
  | 0, j, out, hd, _ => by
    refine Ev.succ ((Ev.const _).congr fun k => ?_)
    simp only [event_Pending.l0, pnd]
    rw [if_neg (by omega)]
  | d + 1, j, out, hd, ho => by
    unfold pnd
    by_cases h : (J38 r (j : Int)).f4 < 0
    · rw [if_pos h]
      refine Ev.succ ((pnd_event r hr d (j + 1) _ (by omega) (by simp; omega)).congr fun k => ?_)
      simp only [event_Pending.l0]
      rw [if_pos (by omega), if_pos (by omega), if_pos (by omega), if_pos h, if_pos (by omega), wrap_succ (by omega)]
    · rw [if_neg h]
      refine Ev.succ ((pnd_event r hr d (j + 1) out (by omega) (by omega)).congr fun k => ?_)
      simp only [event_Pending.l0]
      rw [if_pos (by omega), if_pos (by omega), if_pos (by omega), if_neg h, wrap_succ (by omega)]
theorem pnd_ref (r : List S38) (hr : r.length ≤ 100000) (ht : ∀ x ∈ r, x.f4 = -1 ∨ 0 ≤ x.f4) : ∀ d (j : Nat) (out : List Int), j + d = r.length → out.length ≤ j → Ev (fun k => larchref05_Pending.l0 k (r.map conv) out (j : Int)) (pnd r d j out, 0)
  | 0, j, out, hd, _ => by
    refine Ev.succ ((Ev.const _).congr fun k => ?_)
    simp only [larchref05_Pending.l0, pnd, List.length_map]
    rw [if_neg (by omega)]
  | d + 1, j, out, hd, ho => by
    have h4 := ht _ (rd38_mem r (j : Int) ⟨by omega, by omega⟩)
    unfold pnd
    by_cases h : (J38 r (j : Int)).f4 < 0
    · rw [if_pos h]
      refine Ev.succ ((pnd_ref r hr ht d (j + 1) _ (by omega) (by simp; omega)).congr fun k => ?_)
      simp only [larchref05_Pending.l0, List.length_map]
      rw [if_pos (by omega), if_pos (by omega), rd76_map r (j : Int) ⟨by omega, by omega⟩, if_pos (show (conv (J38 r (j : Int))).f4 = -1 from by show (J38 r (j : Int)).f4 = -1; omega), if_pos (by omega), wrap_succ (by omega)]
    · rw [if_neg h]
      refine Ev.succ ((pnd_ref r hr ht d (j + 1) out (by omega) (by omega)).congr fun k => ?_)
      simp only [larchref05_Pending.l0, List.length_map]
      rw [if_pos (by omega), if_pos (by omega), rd76_map r (j : Int) ⟨by omega, by omega⟩, if_neg (show ¬ (conv (J38 r (j : Int))).f4 = -1 from by show ¬ (J38 r (j : Int)).f4 = -1; omega), wrap_succ (by omega)]
theorem pnd_le (r : List S38) : ∀ d (j : Nat) (out : List Int), (pnd r d j out).length ≤ out.length + d
  | 0, _, _ => Nat.le_refl _
  | d + 1, j, out => by
    unfold pnd
    split
    · have := pnd_le r d (j + 1) (out ++ [(j : Int)])
      simp at this
      omega
    · have := pnd_le r d (j + 1) out
      omega
theorem pending_both (l0 : List S67) (hp : ∀ e ∈ l0, e.f3.f3.length ≤ 1048576) : ∃ (v : List Int) (e : Int), Ev (fun k => event_Pending.f k l0) (v, e) ∧ Ev (fun k => larchref05_Pending.f k l0) (v, e) ∧ v.length ≤ 100000 := by
  obtain ⟨r, c, hE, hR, -, -, h0⟩ := Calls_both l0 hp
  by_cases e0 : c = 0
  · subst e0
    obtain ⟨hl, hk⟩ := h0 rfl
    have hrl : r.length ≤ 100000 := Nat.le_trans hk.len hl
    refine ⟨pnd r r.length 0 [], 0, ?_, ?_, ?_⟩
    · unfold event_Pending.f
      rw [hE]
      simp only [Option.bind_some, if_true]
      exact pnd_event r hrl r.length 0 [] (by omega) (by simp)
    · unfold larchref05_Pending.f
      refine Ev.bind hR ?_
      simp only [if_true]
      exact pnd_ref r hrl hk.tw r.length 0 [] (by omega) (by simp)
    · have := pnd_le r r.length 0 []
      simp at this
      omega
  · refine ⟨[], c, ?_, ?_, by simp⟩
    · unfold event_Pending.f
      rw [hE]
      simp only [Option.bind_some, if_neg e0]
      exact Ev.const _
    · unfold larchref05_Pending.f
      refine Ev.bind hR ?_
      simp only [if_neg e0]
      exact Ev.const _
def wdt (l0 : List S67) : Nat → Nat → Int → Int → Int
  | 0, _, _, m => m
  | d + 1, j, n, m => if (J67 l0 (j : Int)).f1 = true then wdt l0 d (j + 1) (wrap64 (n - 1)) (mx m (wrap64 (n - 1))) else wdt l0 d (j + 1) (wrap64 (n + 1)) (mx m (wrap64 (n + 1)))
theorem wdt_event (l0 : List S67) (hl : l0.length ≤ 100000) : ∀ d (j : Nat) (n m : Int), j + d = l0.length → Ev (fun k => event_Width.l0 k n m l0 (l0.length : Int) (j : Int)) (wdt l0 d j n m, 0)
  | 0, j, n, m, hd => by
    refine Ev.succ ((Ev.const _).congr fun k => ?_)
    simp only [event_Width.l0, wdt]
    rw [if_neg (by omega)]
  | d + 1, j, n, m, hd => by
    unfold wdt
    by_cases h : (J67 l0 (j : Int)).f1 = true
    · rw [if_pos h]
      refine Ev.succ ((wdt_event l0 hl d (j + 1) _ _ (by omega)).congr fun k => ?_)
      simp only [event_Width.l0]
      rw [if_pos (by omega), if_pos (by omega), if_pos (by omega), if_pos h, wrap_succ (by omega)]
    · rw [if_neg h]
      refine Ev.succ ((wdt_event l0 hl d (j + 1) _ _ (by omega)).congr fun k => ?_)
      simp only [event_Width.l0]
      rw [if_pos (by omega), if_pos (by omega), if_pos (by omega), if_neg h, wrap_succ (by omega)]
theorem wdt_ref (l0 : List S67) (hl : l0.length ≤ 100000) : ∀ d (j : Nat) (n m : Int), j + d = l0.length → Ev (fun k => larchref05_Width.l0 k l0 n m (j : Int)) (wdt l0 d j n m, 0)
  | 0, j, n, m, hd => by
    refine Ev.succ ((Ev.const _).congr fun k => ?_)
    simp only [larchref05_Width.l0, wdt]
    rw [if_neg (by omega)]
  | d + 1, j, n, m, hd => by
    unfold wdt
    by_cases h : (J67 l0 (j : Int)).f1 = true
    · rw [if_pos h]
      refine Ev.succ ((wdt_ref l0 hl d (j + 1) _ _ (by omega)).congr fun k => ?_)
      simp only [larchref05_Width.l0]
      rw [if_pos (by omega), if_pos (by omega), if_pos h, wrap_succ (by omega)]
    · rw [if_neg h]
      refine Ev.succ ((wdt_ref l0 hl d (j + 1) _ _ (by omega)).congr fun k => ?_)
      simp only [larchref05_Width.l0]
      rw [if_pos (by omega), if_pos (by omega), if_neg h, wrap_succ (by omega)]
theorem width_both (l0 : List S67) : ∃ v e : Int, Ev (fun k => event_Width.f k l0) (v, e) ∧ Ev (fun k => larchref05_Width.f k l0) (v, e) := by
  obtain ⟨c, hE, hR, h0⟩ := check_both l0
  by_cases e0 : c = 0
  · subst e0
    obtain ⟨hl, -⟩ := h0 rfl
    refine ⟨wdt l0 l0.length 0 0 0, 0, ?_, ?_⟩
    · unfold event_Width.f
      rw [hE]
      simp only [Option.bind_some, if_true]
      exact wdt_event l0 hl l0.length 0 0 0 (by omega)
    · unfold larchref05_Width.f
      refine Ev.bind hR ?_
      simp only [if_true]
      exact wdt_ref l0 hl l0.length 0 0 0 (by omega)
  · refine ⟨0, c, ?_, ?_⟩
    · unfold event_Width.f
      rw [hE]
      simp only [Option.bind_some, if_neg e0]
      exact Ev.const _
    · unfold larchref05_Width.f
      refine Ev.bind hR ?_
      simp only [if_neg e0]
      exact Ev.const _
theorem row_both (l0 : List S67) : ∃ (v : Bool) (e : Int), Ev (fun k => event_Row.f k l0) (v, e) ∧ Ev (fun k => larchref05_Row.f k l0) (v, e) := by
  obtain ⟨n, e, hE, hR⟩ := width_both l0
  refine ⟨if e = 0 then decide (n ≤ 1) else false, e, ?_, ?_⟩
  · unfold event_Row.f
    refine Ev.bind hE ?_
    by_cases h : e = 0
    · simp only [if_pos h]; exact Ev.const _
    · simp only [if_neg h]; exact Ev.const _
  · unfold larchref05_Row.f
    refine Ev.bind hR ?_
    by_cases h : e = 0
    · simp only [if_pos h]; exact Ev.const _
    · simp only [if_neg h]; exact Ev.const _
theorem ints_go (x : List Int) (hx : x.length ≤ 100000) : ∀ d (j : Nat), j + d = x.length → Ev (fun k => larchlaw05_ints.l0 k x x (j : Int)) true
  | 0, j, hd => by
    refine Ev.succ ((Ev.const _).congr fun k => ?_)
    simp only [larchlaw05_ints.l0]
    rw [if_neg (by omega)]
  | d + 1, j, hd => by
    refine Ev.succ ((ints_go x hx d (j + 1) (by omega)).congr fun k => ?_)
    simp only [larchlaw05_ints.l0]
    rw [if_pos (by omega), if_pos (by omega), if_pos (by omega), if_pos trivial, wrap_succ (by omega)]
theorem ints_same (x : List Int) (hx : x.length ≤ 100000) : Ev (fun k => larchlaw05_ints.f k x x) true := by
  refine (ints_go x hx x.length 0 (by omega)).congr fun k => ?_
  unfold larchlaw05_ints.f
  rw [if_pos rfl]
  rfl
theorem places_pure : EventPlacesPure := by
  intro l0 a b hl hp
  refine Ev.ex (f := fun k => larchlaw05_EventPlaces.f k l0 a b) ?_
  unfold larchlaw05_EventPlaces.f
  rw [known_ok]
  simp only [Option.bind_some, if_true]
  obtain ⟨v1, e1, hA, hAr⟩ := ahead_both l0 hp a b
  obtain ⟨v2, e2, hP, hPr, hv2⟩ := pending_both l0 hp
  obtain ⟨v3, e3, hW, hWr⟩ := width_both l0
  obtain ⟨v4, e4, hO, hOr⟩ := row_both l0
  refine Ev.bind hAr ?_
  rw [hA]
  simp only [Option.bind_some, bne_self_eq_false, Bool.false_eq_true, if_false]
  refine Ev.succ (Ev.congr (g := fun k => (larchref05_Pending.f k l0).bind fun bt230 => (event_Pending.f k l0).bind fun bt234 => (larchlaw05_ints.f k bt230.1 bt234.1).bind fun t238 => if t238 = true then larchlaw05_EventPlaces.j1 k l0 (bt230.2 != bt234.2) else larchlaw05_EventPlaces.j1 k l0 true) ?_ fun k => ?_)
  rotate_left
  · simp only [larchlaw05_EventPlaces.j0]
    rw [if_neg (by simp)]
  refine Ev.bind hPr (Ev.bind hP (Ev.bind (ints_same v2 hv2) ?_))
  simp only [if_true, bne_self_eq_false]
  refine Ev.succ (Ev.congr (g := fun k => (larchref05_Width.f k l0).bind fun bt239 => (event_Width.f k l0).bind fun bt241 => (larchref05_Row.f k l0).bind fun bt243 => (event_Row.f k l0).bind fun bt245 => if bt239.1 = bt241.1 then (if bt239.2 = bt241.2 then (if (bt243.1 == bt245.1) = true then some (bt243.2 == bt245.2) else none) else none) else none) ?_ fun k => ?_)
  rotate_left
  · simp only [larchlaw05_EventPlaces.j1]
    rw [if_neg (by simp)]
  refine Ev.bind hWr (Ev.bind hW (Ev.bind hOr (Ev.bind hO ?_)))
  simp only [if_true, beq_self_eq_true]
  exact Ev.const _
theorem eventPlaces_holds : Rows.EventPlacesUptoSaid := EventPlaces_of places_pure
end Go.Proofs.Ytagdkmcgepidoaa.P
#print axioms Go.Proofs.Ytagdkmcgepidoaa.P.eventPlaces_holds
