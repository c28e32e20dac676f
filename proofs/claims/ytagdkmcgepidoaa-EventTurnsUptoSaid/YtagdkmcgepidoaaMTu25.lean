/- P.eventTurns_holds, part 26 of 26: the contracts of the Go functions that the law calls, its own walk, and its plain law, for every input that the statement speaks of. -/
import Derived.Test.YtagdkmcgepidoaaMTu22
import Derived.Test.YtagdkmcgepidoaaMTu24
import Derived.Test.YtagdkmcgepidoaaMTu15
import Derived.Test.YtagdkmcgepidoaaMTu23
import Derived.Test.YtagdkmcgepidoaaMTu19
import Derived.Test.YtagdkmcgepidoaaMTu21
import Derived.Test.YtagdkmcgepidoaaMTu2
import Derived.Test.YtagdkmcgepidoaaMTu10
set_option linter.unusedVariables false
set_option linter.unusedSimpArgs false
/- P13 -/
namespace Go.Proofs.Ytagdkmcgepidoaa.P
open Go.RowKit Go.Proofs.YtagdkmcgepidoaaW.PrintWords Go.Proofs.YtagdkmcgepidoaaW.PrintLast Go.Proofs.YtagdkmcgepidoaaW.PrintMore
theorem of_filter_go (l0 : List S67) (t : Int) : ∀ d j, j + d = l0.length → flt l0 (ofP l0 t) d j = (l0.drop j).filter (fun e => e.f0 == t)
  | 0, j, h => by rw [List.drop_eq_nil_of_le (by omega)]; rfl
  | d + 1, j, h => by
    rw [flt_succ, drop67 l0 j (by omega), List.filter_cons, of_filter_go l0 t d (j + 1) (by omega)]
    rfl
theorem of_filter (l0 : List S67) (t : Int) : keptL (ofP l0 t) l0 l0.length 0 [] = l0.filter (fun e => e.f0 == t) := by
  rw [keptL_flt, of_filter_go l0 t _ 0 (by omega)]; rfl
theorem flt_all (l0 : List S67) : ∀ d j, j + d = l0.length → flt l0 (fun _ => true) d j = l0.drop j
  | 0, j, h => by rw [List.drop_eq_nil_of_le (by omega)]; rfl
  | d + 1, j, h => by
    rw [flt_succ, drop67 l0 j (by omega), if_pos rfl, flt_all l0 d (j + 1) (by omega)]
theorem eqGo_refl (a : List S67) : ∀ d j, eqGo a a d j = true
  | 0, _ => rfl
  | d + 1, j => by unfold eqGo; rw [evSame_refl, eqGo_refl a d]; rfl
theorem eqB_refl (a : List S67) : eqB a a = true := by unfold eqB; rw [eqGo_refl]; simp
theorem sameGo_true (a b : List S67) (h : ∀ t : Int, a.filter (fun e => e.f0 == t) = b.filter (fun e => e.f0 == t)) : ∀ d t, sameGo a b d t = true
  | 0, _ => rfl
  | d + 1, t => by unfold sameGo; rw [of_filter, of_filter, h, eqB_refl, sameGo_true a b h d]; rfl
theorem sameGo_false (a b : List S67) (u : Nat) (h : (a.filter (fun e => e.f0 == (u : Int))).length ≠ (b.filter (fun e => e.f0 == (u : Int))).length) : ∀ d t, t ≤ u → u < t + d → sameGo a b d t = false
  | 0, _, _, _ => by omega
  | d + 1, t, h1, h2 => by
    unfold sameGo
    by_cases e : t = u
    · subst e
      rw [of_filter, of_filter]
      unfold eqB
      rw [decide_eq_false h]; rfl
    · rw [sameGo_false a b u h d (t + 1) (by omega) (by omega), Bool.and_false]
theorem evOk_set (n : S67) (ops : List S33) (a : Int) (v : S33) (ha : 0 ≤ a ∧ a < ops.length) (hn : 0 ≤ n.f0) (h : n.f0 ≠ a) : evOk n (ops.set a.toNat v) = evOk n ops := by
  unfold evOk
  rw [rd33_set ops a n.f0 v ha hn, if_neg h]
theorem chkL_cons (e : S67) (es : List S67) (op : List Bool) (ops : List S33) : chkL (e :: es) op ops = 0 ↔ (0 ≤ e.f0 ∧ e.f0 < 64 ∧ e.f1 = rdOf false op e.f0 ∧ evOk e ops = true) ∧ chkL es (op.set e.f0.toNat (!e.f1)) (ops.set e.f0.toNat e.f2) = 0 := by
  constructor
  · intro h
    unfold chkL at h
    split at h
    · cases h
    · rename_i hc
      split at h
      · rename_i hv
        have hc' := not_or.mp hc
        have hc2 := not_or.mp hc'.2
        exact ⟨⟨by omega, by omega, Decidable.not_not.mp hc2.2, hv⟩, h⟩
      · cases h
  · rintro ⟨⟨h1, h2, h3, h4⟩, h5⟩
    unfold chkL
    rw [if_neg, if_pos h4]
    · exact h5
    · rintro (h | h | h)
      · omega
      · omega
      · exact h h3
theorem chkL_swap (a b : S67) (Q : List S67) (op : List Bool) (ops : List S33) (ho : op.length = 64) (hs : ops.length = 64) (hne : a.f0 ≠ b.f0) (h : chkL (a :: b :: Q) op ops = 0) : chkL (b :: a :: Q) op ops = 0 := by
  rw [chkL_cons, chkL_cons] at h
  obtain ⟨⟨a1, a2, a3, a4⟩, ⟨b1, b2, b3, b4⟩, h⟩ := h
  rw [rdOf_set op a.f0 b.f0 _ ⟨a1, by omega⟩ b1, if_neg (Ne.symm hne)] at b3
  rw [evOk_set b ops a.f0 _ ⟨a1, by omega⟩ b1 (Ne.symm hne)] at b4
  rw [chkL_cons, chkL_cons]
  refine ⟨⟨b1, b2, b3, b4⟩, ⟨a1, a2, ?_, ?_⟩, ?_⟩
  · rw [rdOf_set op b.f0 a.f0 _ ⟨b1, by omega⟩ a1, if_neg hne]; exact a3
  · rw [evOk_set a ops b.f0 _ ⟨b1, by omega⟩ a1 hne]; exact a4
  · rw [List.set_comm _ _ (by omega), List.set_comm _ _ (by omega : b.f0.toNat ≠ a.f0.toNat)]; exact h
theorem chkL_turn (a b : S67) (Q : List S67) (hne : a.f0 ≠ b.f0) : ∀ (P : List S67) (op : List Bool) (ops : List S33), op.length = 64 → ops.length = 64 → chkL (P ++ a :: b :: Q) op ops = 0 → chkL (P ++ b :: a :: Q) op ops = 0
  | [], op, ops, ho, hs, h => chkL_swap a b Q op ops ho hs hne h
  | e :: P, op, ops, ho, hs, h => by
    rw [List.cons_append, chkL_cons] at h ⊢
    exact ⟨h.1, chkL_turn a b Q hne P _ _ (by simpa using ho) (by simpa using hs) h.2⟩
theorem chkL_pre (Q : List S67) : ∀ (P : List S67) (op : List Bool) (ops : List S33), chkL (P ++ Q) op ops = 0 → chkL P op ops = 0
  | [], _, _, _ => rfl
  | e :: P, op, ops, h => by
    rw [List.cons_append, chkL_cons] at h
    rw [chkL_cons]
    exact ⟨h.1, chkL_pre Q P _ _ h.2⟩
theorem chkL_thr (e : S67) (Q : List S67) : ∀ (P : List S67) (op : List Bool) (ops : List S33), chkL (P ++ e :: Q) op ops = 0 → 0 ≤ e.f0 ∧ e.f0 < 64
  | [], op, ops, h => by
    rw [List.nil_append, chkL_cons] at h
    exact ⟨h.1.1, h.1.2.1⟩
  | x :: P, op, ops, h => by
    rw [List.cons_append, chkL_cons] at h
    exact chkL_thr e Q P _ _ h.2
theorem check_L (l : List S67) (hl : l.length ≤ 100000) : event_Check.f l = some (chkL l (List.replicate 64 false) (List.replicate 64 z33)) := by
  unfold event_Check.f
  rw [if_neg (by omega), chkGo_L l _ 0 _ _ (by omega)]
  rfl
theorem same_val (a b : List S67) (ha : a.length ≤ 100000) (hb : b.length ≤ 100000) (pa : ∀ e ∈ a, e.f3.f3.length ≤ 1048576) (pb : ∀ e ∈ b, e.f3.f3.length ≤ 1048576) (ca : event_Check.f a = some 0) (cb : event_Check.f b = some 0) : event_Same.f a b = some (sameGo a b 64 0, 0) := by
  unfold event_Same.f
  rw [ca, Option.bind_some, if_pos rfl, cb, Option.bind_some, if_pos rfl, if_pos ⟨⟨ha, pa⟩, hb, pb⟩]
theorem rd67_mid (P : List S67) (x : S67) (Q : List S67) (i : Nat) (h : i = P.length) : J67 (P ++ x :: Q) (i : Int) = x := by
  subst h
  unfold J67
  rw [Int.toNat_natCast, List.getD_eq_getElem?_getD, List.getElem?_append_right (Nat.le_refl _), Nat.sub_self]
  rfl
theorem split2 (l : List S67) (i : Nat) (h : i + 1 < l.length) : l = l.take i ++ J67 l (i : Int) :: J67 l ((i + 1 : Nat) : Int) :: l.drop (i + 2) := by
  rw [← drop67 l (i + 1) h, ← drop67 l i (by omega), List.take_append_drop]
theorem swapL_mid (P : List S67) (a b : S67) (Q : List S67) (i : Nat) (h : i = P.length) : swapL (P ++ a :: b :: Q) i = P ++ b :: a :: Q := by
  unfold swapL
  rw [rd67_mid P a (b :: Q) i h, show P ++ a :: b :: Q = (P ++ [a]) ++ b :: Q by simp, rd67_mid (P ++ [a]) b Q (i + 1) (by simp [h]), List.append_assoc]
  subst h
  rw [List.set_append_right _ _ (Nat.le_refl _), Nat.sub_self]
  simp
theorem flt2 (a b : S67) (Q : List S67) (t : Int) (hne : a.f0 ≠ b.f0) : (a :: b :: Q).filter (fun e => e.f0 == t) = (b :: a :: Q).filter (fun e => e.f0 == t) := by
  by_cases e1 : a.f0 = t
  · have e2 : b.f0 ≠ t := fun h => hne (e1.trans h.symm)
    simp [e1, e2]
  · by_cases e2 : b.f0 = t
    · simp [e1, e2]
    · simp [e1, e2]
theorem tail_ev (l0 : List S67) (hp : ∀ e ∈ l0, e.f3.f3.length ≤ 1048576) (hl : l0.length ≤ 100000) (h2 : 2 ≤ l0.length) (hc : event_Check.f l0 = some 0) (hch : chkL l0 (List.replicate 64 false) (List.replicate 64 z33) = 0) : larchlaw05_EventTurns.t l0 = some true := by
  have hs : l0 = l0.take (l0.length - 1) ++ [J67 l0 ((l0.length - 1 : Nat) : Int)] := by
    have := drop67 l0 (l0.length - 1) (by omega)
    rw [List.drop_eq_nil_of_le (by omega : l0.length ≤ l0.length - 1 + 1)] at this
    rw [← this, List.take_append_drop]
  obtain ⟨e, he⟩ : ∃ e, e = J67 l0 ((l0.length - 1 : Nat) : Int) := ⟨_, rfl⟩
  rw [← he] at hs
  have hcp : chkL (l0.take (l0.length - 1)) (List.replicate 64 false) (List.replicate 64 z33) = 0 := by
    rw [hs] at hch
    exact chkL_pre _ _ _ _ hch
  have het : 0 ≤ e.f0 ∧ e.f0 < 64 := by
    rw [hs] at hch
    exact chkL_thr e [] _ _ _ hch
  have hlt : (l0.take (l0.length - 1)).length ≤ 100000 := by rw [List.length_take]; omega
  have hv := same_val l0 (l0.take (l0.length - 1)) hl hlt hp (fun x hx => hp x (List.mem_of_mem_take hx)) hc (by rw [check_L _ hlt, hcp])
  have hf := sameGo_false l0 (l0.take (l0.length - 1)) e.f0.toNat (by
    rw [show ((e.f0.toNat : Nat) : Int) = e.f0 by omega]
    conv => lhs; rw [hs, List.filter_append]
    simp) 64 0 (by omega) (by omega)
  unfold larchlaw05_EventTurns.t
  rw [hv, hf]
  simp
theorem turns_pure : EventTurnsPure := by
  intro l0 a1 hl1 hp
  suffices hev : Ev (fun k => larchlaw05_EventTurns.f k l0 a1) true from hev.ex
  obtain ⟨c, hc, -, -⟩ := check_both l0
  by_cases h0 : c = 0
  rotate_left
  · refine (Ev.const true).congr fun k => ?_
    unfold larchlaw05_EventTurns.f
    rw [known_ok3, Option.bind_some, if_pos rfl, hc, Option.bind_some, if_neg h0]
    unfold event_Same.f
    rw [hc, Option.bind_some, if_neg h0, Option.bind_some, if_pos rfl]
  subst h0
  obtain ⟨hl, hchk, r, own, hA, -, -, hr, hO, -⟩ := all_of l0 hp hc
  obtain ⟨wh, hwh, hwl, hwv⟩ := places_val l0 r own hO hl hr
  have hch : chkL l0 (List.replicate 64 false) (List.replicate 64 z33) = 0 := by
    rw [← hchk, chkGo_L l0 _ 0 _ _ (by omega)]; rfl
  have hcut : event_Cut.f l0 (r.length : Int) = some (l0, 0) := by
    unfold event_Cut.f
    rw [hA, Option.bind_some]
    simp only [if_true]
    rw [if_neg (by omega), hwh, Option.bind_some, if_pos ⟨⟨hl, hp⟩, hwl⟩, keptL_congr l0 _ (fun _ => true) _ 0 _ (fun i _ hi => by
      unfold cutP
      rw [hwv i (by omega)]
      exact decide_eq_true (hO.al i (by omega)).1.2), keptL_flt, flt_all l0 _ 0 (by omega)]
    rfl
  have hsame : event_Same.f l0 l0 = some (true, 0) := by
    rw [same_val l0 l0 hl hl hp hp hc hc, sameGo_true l0 l0 (fun _ => rfl)]
  have hse := se_ev l0 l0 hl hp
  rw [seB_refl] at hse
  refine Ev.congr (g := fun k => larchlaw05_EventTurns.g k l0 a1) ?_ (fun k => by
    unfold larchlaw05_EventTurns.f
    rw [known_ok3, Option.bind_some, if_pos rfl, hc, Option.bind_some, if_pos rfl])
  refine Ev.congr (g := fun k => (larchref05_SameEvents.f k l0 l0).bind fun q => if q = true then (if l0.length < 2 then some true else larchlaw05_EventTurns.s k l0 a1) else none) ?_ (fun k => by
    simp only [larchlaw05_EventTurns.g, hA, hcut, hsame, Option.bind_some, true_and, and_true])
  refine Ev.bind hse ?_
  refine Ev.congr (g := fun k => if l0.length < 2 then some true else larchlaw05_EventTurns.s k l0 a1) ?_ (fun k => by rw [if_pos rfl])
  by_cases h2 : l0.length < 2
  · exact (Ev.const true).congr fun k => by rw [if_pos h2]
  refine Ev.congr (g := fun k => larchlaw05_EventTurns.s k l0 a1) ?_ (fun k => by rw [if_neg h2])
  have ht := tail_ev l0 hp hl (by omega) hc hch
  have hi : turnAt l0 a1 + 1 < l0.length := by
    unfold turnAt
    have := Nat.mod_lt (a1 % 18446744073709551616).toNat (show l0.length - 1 > 0 by omega)
    omega
  unfold larchlaw05_EventTurns.s
  refine Ev.bind (copy_ev l0 hl hp) ?_
  rw [if_pos rfl]
  by_cases hne : (J67 l0 (turnAt l0 a1 : Int)).f0 = (J67 l0 ((turnAt l0 a1 + 1 : Nat) : Int)).f0
  · exact (Ev.const true).congr fun k => by rw [if_pos hne, ht]
  refine (Ev.const true).congr fun k => ?_
  rw [if_neg hne]
  generalize turnAt l0 a1 = i at hi hne
  have hsp := split2 l0 i hi
  generalize J67 l0 (i : Int) = a at hsp hne
  generalize J67 l0 ((i + 1 : Nat) : Int) = b at hsp hne
  have hiP : i = (l0.take i).length := by rw [List.length_take]; omega
  have hsw : swapL l0 i = l0.take i ++ b :: a :: l0.drop (i + 2) := by
    conv => lhs; rw [hsp]
    exact swapL_mid _ a b _ i hiP
  have hln : (swapL l0 i).length = l0.length := by
    conv => rhs; rw [hsp]
    rw [hsw]; simp
  have hpn : ∀ e ∈ swapL l0 i, e.f3.f3.length ≤ 1048576 := fun e he => hp e (by
    rw [hsw] at he
    rw [hsp]
    simp only [List.mem_append, List.mem_cons] at he ⊢
    rcases he with h | h | h | h
    · exact .inl h
    · exact .inr (.inr (.inl h))
    · exact .inr (.inl h)
    · exact .inr (.inr (.inr h)))
  have hcs : event_Check.f (swapL l0 i) = some 0 := by
    rw [check_L _ (by omega), hsw]
    congr 1
    refine chkL_turn a b _ hne _ _ _ (by simp) (by simp) ?_
    rw [← hsp]; exact hch
  rw [same_val l0 (swapL l0 i) hl (by omega) hp hpn hc hcs, sameGo_true l0 (swapL l0 i) (fun t => by
    rw [hsw]
    conv => lhs; rw [hsp]
    rw [List.filter_append, List.filter_append]
    congr 1
    exact flt2 a b _ t hne), Option.bind_some, if_pos ⟨rfl, rfl⟩, ht]
theorem eventTurns_holds : Rows.EventTurnsUptoSaid := EventTurns_of turns_pure
end Go.Proofs.Ytagdkmcgepidoaa.P
#print axioms Go.Proofs.Ytagdkmcgepidoaa.P.eventTurns_holds
