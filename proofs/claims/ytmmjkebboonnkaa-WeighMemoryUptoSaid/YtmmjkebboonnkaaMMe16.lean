/- P.weighMemory_holds, part 17 of 28: the contracts of the Go functions that the law calls, its own walk, and its plain law, for every input that the statement speaks of. -/
import Derived.Test.YtmmjkebboonnkaaMMe15
import Derived.Test.YtmmjkebboonnkaaMMe2
import Derived.Test.YtmmjkebboonnkaaMMe13
import Derived.Test.YtmmjkebboonnkaaMMe14
import Derived.Test.YtmmjkebboonnkaaMMe3
set_option linter.unusedVariables false
set_option linter.unusedSimpArgs false
/- P1 -/
namespace Go.Proofs.Ytmmjkebboonnkaa.P
open Go.RowKit Go.Proofs.YtmmjkebboonnkaaW.PrintWords Go.Proofs.YtmmjkebboonnkaaW.PrintLast Go.Proofs.YtmmjkebboonnkaaW.PrintMore
def Ev {α : Type} (f : Nat → Option α) (v : α) : Prop := ∃ K, ∀ k, K ≤ k → f k = some v
namespace Ev
variable {α β : Type}
theorem const (v : α) : Ev (fun _ => some v) v := ⟨0, fun _ _ => rfl⟩
theorem succ {f : Nat → Option α} {v : α} (h : Ev (fun k => f (k + 1)) v) : Ev f v := by
  obtain ⟨K, h⟩ := h
  refine ⟨K + 1, fun k hk => ?_⟩
  obtain ⟨j, rfl⟩ : ∃ j, k = j + 1 := ⟨k - 1, by omega⟩
  exact h j (by omega)
theorem bind {f : Nat → Option α} {g : Nat → α → Option β} {x : α} {v : β} (h1 : Ev f x) (h2 : Ev (fun k => g k x) v) : Ev (fun k => (f k).bind (g k)) v := by
  obtain ⟨K1, h1⟩ := h1
  obtain ⟨K2, h2⟩ := h2
  refine ⟨max K1 K2, fun k hk => ?_⟩
  show (f k).bind (g k) = some v
  rw [h1 k (by omega)]
  exact h2 k (by omega)
theorem congr {f g : Nat → Option α} {v : α} (h : Ev g v) (e : ∀ k, f k = g k) : Ev f v := by
  obtain ⟨K, h⟩ := h
  exact ⟨K, fun k hk => (e k).trans (h k hk)⟩
theorem congr' {f g : Nat → Option α} {v w : α} (h : Ev g v) (ev : w = v) (e : ∀ k, f k = g k) : Ev f w := by
  subst ev
  exact h.congr e
theorem of_mono {f : Nat → Option α} {v : α} (K : Nat) (h : f K = some v) (m : ∀ k, LeO (f k) (f (k + 1))) : Ev f v := by
  refine ⟨K, fun k hk => ?_⟩
  obtain ⟨d, rfl⟩ : ∃ d, k = K + d := ⟨k - K, by omega⟩
  induction d with
  | zero => exact h
  | succ d ih => exact m _ _ (ih (by omega))
theorem uniq {f : Nat → Option α} {v v' : α} (h : Ev f v) (h' : Ev f v') : v = v' := by
  obtain ⟨K, h⟩ := h
  obtain ⟨K', h'⟩ := h'
  have a := h (max K K') (by omega)
  have b := h' (max K K') (by omega)
  rw [a] at b
  exact Option.some.inj b
end Ev
def Leaf (n : S49) : Prop := n.f4 = -1 ∧ n.f5 = -1
instance (n : S49) : Decidable (Leaf n) := by unfold Leaf; infer_instance
def kids (t : List S49) (p : Int) : List Int := if Leaf (J49 t p) then [] else [(J49 t p).f4, (J49 t p).f5]
def InT (t : List S49) (p : Int) : Prop := 0 ≤ p ∧ p < (t.length : Int)
inductive Tr (t : List S49) : Int → List Int → Prop
  | leaf {p : Int} (h : InT t p) (hl : Leaf (J49 t p)) : Tr t p [p]
  | node {p : Int} {l1 l2 : List Int} (h : InT t p) (hl : ¬ Leaf (J49 t p)) (h1 : Tr t (J49 t p).f4 l1) (h2 : Tr t (J49 t p).f5 l2) : Tr t p (p :: (l1 ++ l2))
theorem Tr.pos {t p l} (h : Tr t p l) : 0 < l.length := by cases h <;> simp
theorem Tr.inT {t p l} (h : Tr t p l) : InT t p := by cases h <;> assumption
theorem Tr.head {t p l} (h : Tr t p l) : ∃ l', l = p :: l' := by cases h <;> exact ⟨_, rfl⟩
theorem Tr.all {t p l} (h : Tr t p l) : ∀ x ∈ l, InT t x := by
  induction h with
  | leaf h hl => intro x hx; simp at hx; subst hx; exact h
  | node h hl h1 h2 ih1 ih2 =>
    intro x hx
    simp at hx
    rcases hx with rfl | hx | hx
    · exact h
    · exact ih1 x hx
    · exact ih2 x hx
theorem Tr.uniq {t p l} (h : Tr t p l) : ∀ {l'}, Tr t p l' → l = l' := by
  induction h with
  | leaf h hl =>
    intro l' h'
    cases h' with
    | leaf => rfl
    | node _ hl' => exact absurd hl hl'
  | node h hl h1 h2 ih1 ih2 =>
    intro l' h'
    cases h' with
    | leaf _ hl' => exact absurd hl' hl
    | node _ _ a b => rw [ih1 a, ih2 b]
theorem wrap_pred {n : Nat} (h : n ≤ 100000000) : wrap64 ((n : Int) + 1 - 1) = (n : Int) := by unfold wrap64; omega
theorem rd_last (s : List Int) (p : Int) : rd (s ++ [p]) (s.length : Int) = p := by simp [rd]
theorem leafF (n : S49) : larchref17_leaf.f n.f0 n.f1 n.f2 n.f3 n.f4 n.f5 = some (decide (Leaf n)) := by
  unfold larchref17_leaf.f Leaf
  split <;> simp_all [Bool.beq_eq_decide_eq]
theorem isLeafF (n : S49) : table_isLeaf.f n.f0 n.f1 n.f2 n.f3 n.f4 n.f5 = some (decide (Leaf n)) := by
  unfold table_isLeaf.f Leaf
  split <;> simp_all [Bool.beq_eq_decide_eq]
theorem Order_step (k : Nat) (t : List S49) (out s : List Int) (p : Int) (hp : InT t p) (ho : out.length ≤ 10000000) (hs : s.length ≤ 10000000) :
    larchref17_Order.l0 (k + 1) t out (s ++ [p]) = if Leaf (J49 t p) then larchref17_Order.l0 k t (out ++ [p]) s else larchref17_Order.l0 k t (out ++ [p]) (s ++ [(J49 t p).f5, (J49 t p).f4]) := by
  obtain ⟨h0, h1⟩ := hp
  simp only [larchref17_Order.l0, List.length_append, List.length_singleton, Int.natCast_add, Int.natCast_one, wrap_pred (show s.length ≤ 100000000 by omega), rd_last, leafF, Option.bind_some]
  rw [if_pos (by omega), if_pos (by omega), if_pos (by omega), if_pos (by omega), if_pos (by omega), if_pos h0, if_pos h1]
  simp only [Int.toNat_natCast, List.take_left', decide_eq_true_eq, List.length_cons, List.length_nil]
  split
  · rfl
  · rw [if_pos (by omega)]
theorem Order_end (k : Nat) (t : List S49) (out : List Int) : larchref17_Order.l0 (k + 1) t out [] = some out := by simp [larchref17_Order.l0]
theorem Order_tr {t p l} (h : Tr t p l) : ∀ {out s r}, out.length + l.length ≤ 10000000 → s.length + l.length ≤ 10000000 → Ev (fun k => larchref17_Order.l0 k t (out ++ l) s) r → Ev (fun k => larchref17_Order.l0 k t out (s ++ [p])) r := by
  induction h with
  | @leaf p h hl =>
    intro out s r ho hs hr
    refine Ev.succ (hr.congr fun k => ?_)
    simp only [List.length_singleton] at ho hs
    rw [Order_step k t out s p h (by omega) (by omega), if_pos hl]
  | @node p l1 l2 h hl h1 h2 ih1 ih2 =>
    intro out s r ho hs hr
    simp only [List.length_cons, List.length_append] at ho hs
    have p1 := h1.pos
    have p2 := h2.pos
    have a := ih2 (out := out ++ [p] ++ l1) (s := s) (r := r) (by simp only [List.length_append, List.length_singleton]; omega) (by omega) (by simpa using hr)
    have b := ih1 (out := out ++ [p]) (s := s ++ [(J49 t p).f5]) (r := r) (by simp only [List.length_append, List.length_singleton]; omega) (by simp only [List.length_append, List.length_singleton]; omega) a
    refine Ev.succ (b.congr fun k => ?_)
    rw [Order_step k t out s p h (by omega) (by omega), if_neg hl, List.append_assoc]
    rfl
theorem Order_of {t p l} (h : Tr t p l) (hl : l.length ≤ 1000000) : Ev (fun k => larchref17_Order.f k t p) l := by
  have := Order_tr h (out := []) (s := []) (r := l) (by simp; omega) (by simp; omega) (Ev.succ ((Ev.const l).congr fun k => Order_end k t l))
  exact this
theorem order_step (k : Nat) (t : List S49) (met : List Bool) (out s : List Int) (p : Int) (hp : InT t p) (hm : met.length = t.length) (ho : out.length ≤ 10000000) (hs : s.length ≤ 10000000) :
    table_order.l0 (k + 1) t met out (s ++ [p]) = if rdOf false met p = true then some [] else if Leaf (J49 t p) then table_order.l0 k t (met.set p.toNat true) (out ++ [p]) s else table_order.l0 k t (met.set p.toNat true) (out ++ [p]) (s ++ [(J49 t p).f5, (J49 t p).f4]) := by
  obtain ⟨h0, h1⟩ := hp
  simp only [table_order.l0, List.length_append, List.length_singleton, Int.natCast_add, Int.natCast_one, wrap_pred (show s.length ≤ 100000000 by omega), rd_last, isLeafF, Option.bind_some]
  rw [if_pos (by omega), if_pos (by omega), if_pos (by omega), if_pos (by omega), if_pos h0, if_pos (by omega)]
  simp only [Int.toNat_natCast, List.take_left', decide_eq_true_eq, List.length_cons, List.length_nil]
  split
  · rfl
  · rw [if_pos (by omega)]
    (try rw [if_pos h1])
    split
    · rfl
    · rw [if_pos (by omega)]
theorem order_end (k : Nat) (t : List S49) (met : List Bool) (out : List Int) : table_order.l0 (k + 1) t met out [] = some out := by simp [table_order.l0]
theorem wkeys_step (k : Nat) (t : List S49) (par out s : List Int) (p : Int) (hp : InT t p) (ho : out.length ≤ 10000000) (hs : s.length ≤ 10000000) :
    weigh_keys.l0 (k + 1) t par out (s ++ [p]) = if (J49 t p).f4 ≥ 0 then weigh_keys.l0 k t par (out ++ [p]) (s ++ [(J49 t p).f5, (J49 t p).f4]) else weigh_keys.l0 k t par (out ++ [p]) s := by
  obtain ⟨h0, h1⟩ := hp
  simp only [weigh_keys.l0, List.length_append, List.length_singleton, Int.natCast_add, Int.natCast_one, wrap_pred (show s.length ≤ 100000000 by omega), rd_last, Option.bind_some]
  rw [if_pos (by omega), if_pos (by omega), if_pos (by omega), if_pos (by omega), if_pos (by omega), if_pos h0, if_pos h1]
  simp only [Int.toNat_natCast, List.take_left', List.length_cons, List.length_nil]
  split
  · rw [if_pos (by omega)]
  · rfl
theorem wkeys_end (k : Nat) (t : List S49) (par out : List Int) : weigh_keys.l0 (k + 1) t par out [] = some (out, par, 0) := by simp [weigh_keys.l0]
theorem wkeys_tr {t p l} (h : Tr t p l) (hf : ∀ q, InT t q → ((J49 t q).f4 ≥ 0 ↔ ¬ Leaf (J49 t q))) {par : List Int} : ∀ {out s r}, out.length + l.length ≤ 10000000 → s.length + l.length ≤ 10000000 → Ev (fun k => weigh_keys.l0 k t par (out ++ l) s) r → Ev (fun k => weigh_keys.l0 k t par out (s ++ [p])) r := by
  induction h with
  | @leaf p h hl =>
    intro out s r ho hs hr
    refine Ev.succ (hr.congr fun k => ?_)
    simp only [List.length_singleton] at ho hs
    rw [wkeys_step k t par out s p h (by omega) (by omega), if_neg (fun hh => (hf p h).1 hh hl)]
  | @node p l1 l2 h hl h1 h2 ih1 ih2 =>
    intro out s r ho hs hr
    simp only [List.length_cons, List.length_append] at ho hs
    have p1 := h1.pos
    have p2 := h2.pos
    have a := ih2 (out := out ++ [p] ++ l1) (s := s) (r := r) (by simp only [List.length_append, List.length_singleton]; omega) (by omega) (by simpa using hr)
    have b := ih1 (out := out ++ [p]) (s := s ++ [(J49 t p).f5]) (r := r) (by simp only [List.length_append, List.length_singleton]; omega) (by simp only [List.length_append, List.length_singleton]; omega) a
    refine Ev.succ (b.congr fun k => ?_)
    rw [wkeys_step k t par out s p h (by omega) (by omega), if_pos ((hf p h).2 hl), List.append_assoc]
    rfl
end Go.Proofs.Ytmmjkebboonnkaa.P
/- P2 -/
namespace Go.Proofs.Ytmmjkebboonnkaa.P
open Go.RowKit Go.Proofs.YtmmjkebboonnkaaW.PrintWords Go.Proofs.YtmmjkebboonnkaaW.PrintLast Go.Proofs.YtmmjkebboonnkaaW.PrintMore
theorem sum_erase (f : Int → Nat) (a : Int) : ∀ m : List Int, a ∈ m → (m.map f).sum = f a + ((m.erase a).map f).sum
  | [], h => by simp at h
  | b :: m, h => by
    by_cases e : b = a
    · subst e; simp
    · have h' : a ∈ m := by simp at h; rcases h with h | h; · exact absurd h.symm e
                            · exact h
      have ih := sum_erase f a m h'
      rw [List.erase_cons_tail (by simpa using e)]
      simp only [List.map_cons, List.sum_cons]
      omega
theorem sum_le (f : Int → Nat) : ∀ (l m : List Int), l.Nodup → (∀ x ∈ l, x ∈ m) → (l.map f).sum ≤ (m.map f).sum
  | [], m, _, _ => by simp
  | a :: l, m, hn, hs => by
    rw [List.nodup_cons] at hn
    have ha : a ∈ m := hs a (by simp)
    have h1 := sum_erase f a m ha
    have h2 := sum_le f l (m.erase a) hn.2 (fun x hx => by
      have hne : x ≠ a := fun e => hn.1 (e ▸ hx)
      exact (List.mem_erase_of_ne hne).2 (hs x (by simp [hx])))
    simp only [List.map_cons, List.sum_cons]
    omega
def places (t : List S49) : List Int := (List.range t.length).map Int.ofNat
theorem mem_places {t : List S49} {i : Int} : i ∈ places t ↔ InT t i := by
  unfold places InT
  simp only [List.mem_map, List.mem_range]
  constructor
  · rintro ⟨a, ha, rfl⟩
    simp; omega
  · rintro ⟨h0, h1⟩
    exact ⟨i.toNat, by omega, by simp; omega⟩
theorem places_length (t : List S49) : (places t).length = t.length := by simp [places]
theorem sum_one : ∀ l : List Int, (l.map fun _ => 1).sum = l.length
  | [] => rfl
  | a :: l => by simp only [List.map_cons, List.sum_cons, sum_one l, List.length_cons]; omega
theorem nodup_length {t : List S49} {l : List Int} (hn : l.Nodup) (hs : ∀ x ∈ l, InT t x) : l.length ≤ t.length := by
  have := sum_le (fun _ => 1) l (places t) hn (fun x hx => mem_places.2 (hs x hx))
  rwa [sum_one, sum_one, places_length] at this
theorem count_flat (t : List S49) (i : Int) : ∀ l : List Int, (l.flatMap (kids t)).count i = (l.map fun p => (kids t p).count i).sum
  | [] => by simp
  | a :: l => by simp [List.count_append, count_flat t i l]
theorem flat_le {t : List S49} {l : List Int} (i : Int) (hn : l.Nodup) (hs : ∀ x ∈ l, InT t x) : (l.flatMap (kids t)).count i ≤ ((places t).flatMap (kids t)).count i := by
  rw [count_flat, count_flat]
  exact sum_le _ l (places t) hn (fun x hx => mem_places.2 (hs x hx))
theorem Tr.count {t p l} (h : Tr t p l) (i : Int) : l.count i = (if i = p then 1 else 0) + (l.flatMap (kids t)).count i := by
  induction h with
  | @leaf p h hl =>
    have e : kids t p = [] := by unfold kids; rw [if_pos hl]
    simp only [List.flatMap_cons, List.flatMap_nil, e, List.append_nil, List.count_nil, List.count_cons, beq_iff_eq]
    by_cases e2 : i = p
    · subst e2; simp
    · rw [if_neg e2, if_neg (Ne.symm e2)]
  | @node p l1 l2 h hl h1 h2 ih1 ih2 =>
    have e1 : kids t p = [(J49 t p).f4, (J49 t p).f5] := by unfold kids; rw [if_neg hl]
    simp only [List.flatMap_cons, List.flatMap_append, List.count_cons, List.count_append, ih1, ih2, e1, List.count_nil, beq_iff_eq, eq_comm (a := i)]
    repeat' split
    all_goals omega
theorem Tr.sub {t q l} (h : Tr t q l) : ∀ p ∈ l, ∃ lp, Tr t p lp ∧ lp.Sublist l := by
  induction h with
  | @leaf p h hl =>
    intro q hq
    simp at hq
    subst hq
    exact ⟨_, .leaf h hl, List.Sublist.refl _⟩
  | @node p l1 l2 h hl h1 h2 ih1 ih2 =>
    intro q hq
    simp only [List.mem_cons, List.mem_append] at hq
    rcases hq with rfl | hq | hq
    · exact ⟨_, .node h hl h1 h2, List.Sublist.refl _⟩
    · obtain ⟨lp, a, b⟩ := ih1 q hq
      exact ⟨lp, a, (b.trans (List.sublist_append_left _ _)).cons _⟩
    · obtain ⟨lp, a, b⟩ := ih2 q hq
      exact ⟨lp, a, (b.trans (List.sublist_append_right _ _)).cons _⟩
def Met (t : List S49) (met : List Bool) (out : List Int) : Prop := met.length = t.length ∧ ∀ i, InT t i → rdOf false met i = decide (i ∈ out)
theorem Met.step {t met out} {p : Int} (h : Met t met out) (hp : InT t p) : Met t (met.set p.toNat true) (out ++ [p]) := by
  obtain ⟨h1, h2⟩ := h
  refine ⟨by simpa using h1, fun i hi => ?_⟩
  have h3 := h2 i hi
  obtain ⟨a, b⟩ := hi
  obtain ⟨c, d⟩ := hp
  unfold rdOf at h3 ⊢
  rw [List.getD_eq_getElem?_getD, List.getElem?_set]
  by_cases e : p = i
  · subst e
    rw [if_pos rfl, if_pos (by rw [h1]; omega)]
    simp
  · have : p.toNat ≠ i.toNat := by omega
    rw [if_neg this, ← List.getD_eq_getElem?_getD, h3]
    simp [Ne.symm e]
theorem Met.start (t : List S49) : Met t (List.replicate t.length false) [] := by
  refine ⟨by simp, fun i _ => ?_⟩
  unfold rdOf
  rw [List.getD_eq_getElem?_getD, List.getElem?_replicate]
  split <;> simp
theorem order_tr {t p l} (h : Tr t p l) : ∀ {met out s r}, Met t met out → l.Nodup → (∀ x ∈ l, x ∉ out) → out.length + l.length ≤ 10000000 → s.length + l.length ≤ 10000000 → (∀ met', Met t met' (out ++ l) → Ev (fun k => table_order.l0 k t met' (out ++ l) s) r) → Ev (fun k => table_order.l0 k t met out (s ++ [p])) r := by
  induction h with
  | @leaf p h hl =>
    intro met out s r hm hn hx ho hs hr
    simp only [List.length_singleton] at ho hs
    have hme : rdOf false met p = false := by rw [hm.2 p h]; simp; exact hx p (by simp)
    refine Ev.succ ((hr _ (hm.step h)).congr fun k => ?_)
    rw [order_step k t met out s p h hm.1 (by omega) (by omega), if_neg (by simp [hme]), if_pos hl]
  | @node p l1 l2 h hl h1 h2 ih1 ih2 =>
    intro met out s r hm hn hx ho hs hr
    simp only [List.length_cons, List.length_append] at ho hs
    have p1 := h1.pos
    have p2 := h2.pos
    rw [List.nodup_cons, List.nodup_append] at hn
    obtain ⟨hnp, hn1, hn2, hn12⟩ := hn
    have hme : rdOf false met p = false := by rw [hm.2 p h]; simp; exact hx p (by simp)
    refine Ev.succ (Ev.congr (g := fun k => table_order.l0 k t (met.set p.toNat true) (out ++ [p]) ((s ++ [(J49 t p).f5]) ++ [(J49 t p).f4])) ?_ fun k => ?_)
    · refine ih1 (hm.step h) hn1 (fun x hx1 hx2 => ?_) (by simp only [List.length_append, List.length_singleton]; omega) (by simp only [List.length_append, List.length_singleton]; omega) fun met1 hm1 => ?_
      · simp only [List.mem_append, List.mem_singleton] at hx2
        rcases hx2 with hx2 | hx2
        · exact hx x (by simp [hx1]) hx2
        · subst hx2; exact hnp (by simp [hx1])
      · refine ih2 hm1 hn2 (fun x hx1 hx2 => ?_) (by simp only [List.length_append, List.length_singleton]; omega) (by omega) fun met2 hm2 => ?_
        · simp only [List.mem_append, List.mem_singleton] at hx2
          rcases hx2 with (hx2 | hx2) | hx2
          · exact hx x (by simp [hx1]) hx2
          · subst hx2; exact hnp (by simp [hx1])
          · exact hn12 x hx2 x hx1 rfl
        · have := hr met2 (by simpa using hm2)
          simpa using this
    · rw [order_step k t met out s p h hm.1 (by omega) (by omega), if_neg (by simp [hme]), if_neg hl, List.append_assoc]
      rfl
theorem order_of {t p l} (h : Tr t p l) (hn : l.Nodup) (hl : l.length ≤ 1000000) (ht : t.length ≤ 1048576) : Ev (fun k => table_order.f k t p) l := by
  have := order_tr h (s := []) (r := l) (Met.start t) hn (by simp) (by simp; omega) (by simp; omega) (fun met' _ => Ev.succ ((Ev.const l).congr fun k => order_end k t met' l))
  refine this.congr fun k => ?_
  unfold table_order.f
  rw [if_pos (by omega), if_pos (by omega)]
  rfl
theorem snoc_cases (s : List Int) : s = [] ∨ ∃ s' p, s = s' ++ [p] := by
  rcases List.eq_nil_or_concat s with h | ⟨a, b, h⟩
  · exact .inl h
  · exact .inr ⟨a, b, by rw [h, List.concat_eq_append]⟩
inductive Trs (t : List S49) : List Int → List Int → Prop
  | nil : Trs t [] []
  | cons {p ps l ls} (h : Tr t p l) (hs : Trs t ps ls) : Trs t (p :: ps) (l ++ ls)
theorem order_run {t : List S49} (hk : ∀ p, InT t p → ∀ c ∈ kids t p, InT t c) (ht : t.length ≤ 1000000) :
    ∀ d out s met, t.length ≤ out.length + d → Met t met out → out.Nodup → (∀ x ∈ out, InT t x) → (∀ x ∈ s, InT t x) → s.length ≤ out.length + 1 →
      (∀ i, out.count i + s.count i = (if i = 0 then 1 else 0) + (out.flatMap (kids t)).count i) →
      ∃ r, Ev (fun k => table_order.l0 k t met out s) r ∧
        ((r = [] ∧ ∃ (out' : List Int) (i : Int), out'.Nodup ∧ (∀ x ∈ out', InT t x) ∧ 2 ≤ (if i = 0 then 1 else 0) + (out'.flatMap (kids t)).count i) ∨
         (r.Nodup ∧ (∀ x ∈ r, InT t x) ∧ ∃ ls, Trs t s.reverse ls ∧ r = out ++ ls)) := by
  intro d
  induction d with
  | zero =>
    intro out s met hd hm hn ho hs hsl hc
    have hlen := nodup_length hn ho
    rcases snoc_cases s with rfl | ⟨s', p, rfl⟩
    · exact ⟨out, Ev.succ ((Ev.const out).congr fun k => order_end k t met out), .inr ⟨hn, ho, [], by simpa using Trs.nil, by simp⟩⟩
    · have hp : InT t p := hs p (by simp)
      have hpo : p ∈ out := by
        refine Decidable.byContradiction fun hno => ?_
        have := nodup_length (t := t) (l := p :: out) (by rw [List.nodup_cons]; exact ⟨hno, hn⟩) (fun x hx => by
          simp at hx
          rcases hx with rfl | hx
          · exact hp
          · exact ho x hx)
        simp at this
        omega
      simp only [List.length_append, List.length_singleton] at hsl
      refine ⟨[], Ev.succ ((Ev.const []).congr fun k => ?_), .inl ⟨rfl, out, p, hn, ho, ?_⟩⟩
      · rw [order_step k t met out s' p hp hm.1 (by omega) (by omega), if_pos (by rw [hm.2 p hp]; simpa using hpo)]
      · have h1 := hc p
        have h2 : 0 < out.count p := List.count_pos_iff.2 hpo
        simp [List.count_append] at h1
        omega
  | succ d ih =>
    intro out s met hd hm hn ho hs hsl hc
    have hlen := nodup_length hn ho
    rcases snoc_cases s with rfl | ⟨s', p, rfl⟩
    · exact ⟨out, Ev.succ ((Ev.const out).congr fun k => order_end k t met out), .inr ⟨hn, ho, [], by simpa using Trs.nil, by simp⟩⟩
    · have hp : InT t p := hs p (by simp)
      simp only [List.length_append, List.length_singleton] at hsl
      by_cases hpo : p ∈ out
      · refine ⟨[], Ev.succ ((Ev.const []).congr fun k => ?_), .inl ⟨rfl, out, p, hn, ho, ?_⟩⟩
        · rw [order_step k t met out s' p hp hm.1 (by omega) (by omega), if_pos (by rw [hm.2 p hp]; simpa using hpo)]
        · have h1 := hc p
          have h2 : 0 < out.count p := List.count_pos_iff.2 hpo
          simp [List.count_append] at h1
          omega
      · have hn' : (out ++ [p]).Nodup := by
          rw [List.nodup_append]
          exact ⟨hn, by simp, fun a ha b hb e => by simp at hb; subst hb; subst e; exact hpo ha⟩
        have ho' : ∀ x ∈ out ++ [p], InT t x := fun x hx => by
          simp at hx
          rcases hx with hx | rfl
          · exact ho x hx
          · exact hp
        have hme : ¬ rdOf false met p = true := by rw [hm.2 p hp]; simpa using hpo
        have hlen' := nodup_length hn' ho'
        simp only [List.length_append, List.length_singleton] at hlen'
        by_cases hl : Leaf (J49 t p)
        · have hkp : kids t p = [] := by unfold kids; rw [if_pos hl]
          obtain ⟨r, hr, hcase⟩ := ih (out ++ [p]) s' _ (by simp; omega) (hm.step hp) hn' ho' (fun x hx => hs x (by simp [hx])) (by simp; omega) (fun i => by
            have h1 := hc i
            simp only [List.count_append, List.flatMap_append, List.flatMap_cons, List.flatMap_nil, hkp, List.append_nil, List.count_nil] at h1 ⊢
            omega)
          refine ⟨r, Ev.succ (hr.congr fun k => ?_), ?_⟩
          · rw [order_step k t met out s' p hp hm.1 (by omega) (by omega), if_neg hme, if_pos hl]
          · rcases hcase with h1 | ⟨h1, h2, ls, h3, h4⟩
            · exact .inl h1
            · refine .inr ⟨h1, h2, [p] ++ ls, ?_, by simp [h4]⟩
              rw [List.reverse_append]
              exact Trs.cons (.leaf hp hl) h3
        · have hkp : kids t p = [(J49 t p).f4, (J49 t p).f5] := by unfold kids; rw [if_neg hl]
          obtain ⟨r, hr, hcase⟩ := ih (out ++ [p]) (s' ++ [(J49 t p).f5, (J49 t p).f4]) _ (by simp; omega) (hm.step hp) hn' ho' (fun x hx => by
            simp at hx
            rcases hx with hx | rfl | rfl
            · exact hs x (by simp [hx])
            · exact hk p hp _ (by simp [hkp])
            · exact hk p hp _ (by simp [hkp])) (by simp; omega) (fun i => by
            have h1 := hc i
            simp only [List.count_append, List.flatMap_append, List.flatMap_cons, List.flatMap_nil, hkp, List.append_nil, List.count_nil, List.count_cons] at h1 ⊢
            omega)
          refine ⟨r, Ev.succ (hr.congr fun k => ?_), ?_⟩
          · rw [order_step k t met out s' p hp hm.1 (by omega) (by omega), if_neg hme, if_neg hl]
          · rcases hcase with h1 | ⟨h1, h2, ls, h3, h4⟩
            · exact .inl h1
            · rw [show (s' ++ [(J49 t p).f5, (J49 t p).f4]).reverse = (J49 t p).f4 :: (J49 t p).f5 :: s'.reverse by simp] at h3
              cases h3 with
              | cons ha hrest =>
                cases hrest with
                | cons hb hrest2 =>
                  rename_i la lb ls2 
                  refine .inr ⟨h1, h2, (p :: (la ++ lb)) ++ ls2, ?_, by rw [h4]; simp⟩
                  rw [List.reverse_append]
                  exact Trs.cons (.node hp hl ha hb) hrest2
end Go.Proofs.Ytmmjkebboonnkaa.P
/- P3 -/
namespace Go.Proofs.Ytmmjkebboonnkaa.P
open Go.RowKit Go.Proofs.YtmmjkebboonnkaaW.PrintWords Go.Proofs.YtmmjkebboonnkaaW.PrintLast Go.Proofs.YtmmjkebboonnkaaW.PrintMore
def Fm (m : Int) (n : S49) : Prop := (0 ≤ n.f2 ∧ n.f2 ≤ 1000000) ∧ (n.f1 = 0 ∨ n.f1 = 1 ∧ n.f0 = 0 ∧ n.f3 = 0) ∧ ((n.f4 = -1 ∧ n.f5 = -1) ∨ (n.f3 = 0 ∧ (1 ≤ n.f4 ∧ n.f4 < m) ∧ (1 ≤ n.f5 ∧ n.f5 < m) ∧ n.f4 ≠ n.f5))
instance (m : Int) (n : S49) : Decidable (Fm m n) := by unfold Fm; infer_instance
theorem formedF (n : S49) (m : Int) : table_formed.f n.f0 n.f1 n.f2 n.f3 n.f4 n.f5 m = some (decide (Fm m n)) := rfl
theorem ite_to {α : Type} {c : Prop} [Decidable c] {a b v : α} (h1 : c → a = v) (h2 : ¬ c → b = v) : (if c then a else b) = v := by
  split
  · exact h1 ‹_›
  · exact h2 ‹_›
theorem wrap_succ {n : Nat} (h : n ≤ 100000000) : wrap64 ((n : Int) + 1) = ((n + 1 : Nat) : Int) := by unfold wrap64; omega
set_option maxHeartbeats 4000000 in
theorem rc_bad (k : Nat) (t : List S49) (x3 : List Int) (j : Nat) (hj : j < t.length) (hx : x3.length = t.length) (hf : ¬ Fm t.length (J49 t (j : Int))) : larchref17_Check.l0 (k + 1 + 1) t x3 (j : Int) = some 3 := by
  simp only [larchref17_Check.l0, larchref17_Check.j1, leafF, Option.bind_some, decide_eq_true_eq, reduceIte]
  rw [if_pos (by omega), if_pos (by omega)]
  unfold Fm at hf
  unfold Leaf
  generalize J49 t (j : Int) = n at hf ⊢
  obtain ⟨f0, f1, f2, f3, f4, f5⟩ := n
  simp only at hf ⊢
  repeat' first
    | with_reducible rfl
    | (refine ite_to (fun _ => ?_) (fun _ => ?_))
  all_goals (exfalso; omega)
set_option maxHeartbeats 4000000 in
theorem rc_leaf (k : Nat) (t : List S49) (x3 : List Int) (j : Nat) (hj : j < t.length) (ht : t.length ≤ 1000000) (hx : x3.length = t.length) (hf : Fm t.length (J49 t (j : Int))) (hl : Leaf (J49 t (j : Int))) : larchref17_Check.l0 (k + 1 + 1) t x3 (j : Int) = larchref17_Check.l0 k t x3 ((j + 1 : Nat) : Int) := by
  simp only [larchref17_Check.l0, larchref17_Check.j1, leafF, Option.bind_some, decide_eq_true_eq, reduceIte]
  rw [if_pos (by omega), if_pos (by omega)]
  simp only [hl, if_true, wrap_succ (show j ≤ 100000000 by omega)]
  unfold Fm at hf
  generalize J49 t (j : Int) = n at hf ⊢
  obtain ⟨f0, f1, f2, f3, f4, f5⟩ := n
  simp only at hf ⊢
  repeat' first
    | with_reducible rfl
    | (refine ite_to (fun _ => ?_) (fun _ => ?_))
  all_goals (exfalso; omega)
set_option maxHeartbeats 4000000 in
theorem rc_node (k : Nat) (t : List S49) (x3 : List Int) (j : Nat) (hj : j < t.length) (ht : t.length ≤ 1000000) (hx : x3.length = t.length) (hf : Fm t.length (J49 t (j : Int))) (hl : ¬ Leaf (J49 t (j : Int))) : larchref17_Check.l0 (k + 1 + 1) t x3 (j : Int) = larchref17_Check.l0 k t ((x3.set (J49 t (j : Int)).f4.toNat (wrap64 (rd x3 (J49 t (j : Int)).f4 + 1))).set (J49 t (j : Int)).f5.toNat (wrap64 (rd (x3.set (J49 t (j : Int)).f4.toNat (wrap64 (rd x3 (J49 t (j : Int)).f4 + 1))) (J49 t (j : Int)).f5 + 1))) ((j + 1 : Nat) : Int) := by
  simp only [larchref17_Check.l0, larchref17_Check.j1, leafF, Option.bind_some, decide_eq_true_eq, reduceIte]
  rw [if_pos (by omega), if_pos (by omega)]
  simp only [hl, if_false, wrap_succ (show j ≤ 100000000 by omega)]
  unfold Fm at hf
  unfold Leaf at hl
  generalize J49 t (j : Int) = n at hf hl ⊢
  obtain ⟨f0, f1, f2, f3, f4, f5⟩ := n
  simp only at hf hl ⊢
  repeat' first
    | with_reducible rfl
    | (refine ite_to (fun _ => ?_) (fun _ => ?_))
  all_goals (exfalso; omega)
theorem rc_over (k : Nat) (t : List S49) (x3 : List Int) : larchref17_Check.l0 (k + 1) t x3 (t.length : Int) = larchref17_Check.l1 k t x3 1 := by
  simp only [larchref17_Check.l0]
  rw [if_neg (by omega)]
theorem rd_set (x : List Int) (a : Int) (i v : Int) (ha : 0 ≤ a ∧ a < x.length) (hi : 0 ≤ i) : rd (x.set a.toNat v) i = if i = a then v else rd x i := by
  unfold rd
  rw [List.getD_eq_getElem?_getD, List.getElem?_set]
  by_cases e : i = a
  · subst e
    rw [if_pos rfl, if_pos (by omega), if_pos rfl]
    rfl
  · rw [if_neg (by omega), if_neg e, List.getD_eq_getElem?_getD]
def par (t : List S49) (j : Nat) (i : Int) : Nat := (((List.range j).map Int.ofNat).flatMap (kids t)).count i
theorem par_succ (t : List S49) (j : Nat) (i : Int) : par t (j + 1) i = par t j i + (kids t (j : Int)).count i := by
  unfold par
  simp [List.range_succ, List.count_append]
theorem count_kids (t : List S49) (p i : Int) : (kids t p).count i ≤ 2 := by
  unfold kids
  split
  · simp
  · simp only [List.count_cons, List.count_nil]
    repeat' split
    all_goals omega
theorem par_le (t : List S49) (i : Int) : ∀ j, par t j i ≤ 2 * j
  | 0 => by simp [par]
  | j + 1 => by rw [par_succ]; have := par_le t i j; have := count_kids t (j : Int) i; omega
theorem rc_good (t : List S49) (ht : t.length ≤ 1000000) (v : Int) : ∀ d (j : Nat) (x3 : List Int), j + d = t.length → x3.length = t.length → (∀ i, j ≤ i → i < t.length → Fm t.length (J49 t (i : Int))) → (∀ i, InT t i → rd x3 i = par t j i) →
    (∀ x3', x3'.length = t.length → (∀ i, InT t i → rd x3' i = par t t.length i) → Ev (fun k => larchref17_Check.l1 k t x3' 1) v) → Ev (fun k => larchref17_Check.l0 k t x3 (j : Int)) v
  | 0, j, x3, hd, hx, hf, hi, hr => by
    have : j = t.length := by omega
    subst this
    exact Ev.succ ((hr x3 hx hi).congr fun k => rc_over k t x3)
  | d + 1, j, x3, hd, hx, hf, hi, hr => by
    have hfj := hf j (Nat.le_refl _) (by omega)
    by_cases hl : Leaf (J49 t (j : Int))
    · refine Ev.succ (Ev.succ ((rc_good t ht v d (j + 1) x3 (by omega) hx (fun i a b => hf i (by omega) b) (fun i hi' => ?_) hr).congr fun k => rc_leaf k t x3 j (by omega) ht hx hfj hl))
      rw [hi i hi', par_succ]
      simp [kids, hl]
    · have hk : kids t (j : Int) = [(J49 t (j : Int)).f4, (J49 t (j : Int)).f5] := by unfold kids; rw [if_neg hl]
      have hc : (1 ≤ (J49 t (j : Int)).f4 ∧ (J49 t (j : Int)).f4 < t.length) ∧ (1 ≤ (J49 t (j : Int)).f5 ∧ (J49 t (j : Int)).f5 < t.length) ∧ (J49 t (j : Int)).f4 ≠ (J49 t (j : Int)).f5 := by
        rcases hfj.2.2 with h | h
        · exact absurd h hl
        · exact h.2
      refine Ev.succ (Ev.succ ((rc_good t ht v d (j + 1) _ (by omega) (by simpa using hx) (fun i a b => hf i (by omega) b) (fun i hi' => ?_) hr).congr fun k => rc_node k t x3 j (by omega) ht hx hfj hl))
      obtain ⟨⟨a0, a1⟩, ⟨b0, b1⟩, hne⟩ := hc
      have pl := par_le t (J49 t (j : Int)).f4 j
      have pr := par_le t (J49 t (j : Int)).f5 j
      have e1 := hi _ (show InT t (J49 t (j : Int)).f4 from ⟨by omega, a1⟩)
      have e2 := hi _ (show InT t (J49 t (j : Int)).f5 from ⟨by omega, b1⟩)
      have e3 := hi i hi'
      rw [rd_set _ _ _ _ (by simp; omega) hi'.1, rd_set _ _ _ _ (by omega) hi'.1, rd_set _ _ _ _ (by omega) (by omega), par_succ, hk, e1]
      rw [if_neg (Ne.symm hne), e2, e3]
      simp only [List.count_cons, List.count_nil, beq_iff_eq]
      unfold wrap64
      by_cases c1 : i = (J49 t (j : Int)).f4
      · subst c1
        rw [if_neg hne, if_pos rfl, if_neg (Ne.symm hne), if_pos rfl]
        omega
      · by_cases c2 : i = (J49 t (j : Int)).f5
        · subst c2
          rw [if_pos rfl, if_neg hne, if_pos rfl]
          omega
        · rw [if_neg c2, if_neg c1, if_neg (Ne.symm c1), if_neg (Ne.symm c2)]
          omega
theorem rc_notgood (t : List S49) (ht : t.length ≤ 1000000) : ∀ d (j : Nat) (x3 : List Int), j + d = t.length → x3.length = t.length → (∃ i, j ≤ i ∧ i < t.length ∧ ¬ Fm t.length (J49 t (i : Int))) → Ev (fun k => larchref17_Check.l0 k t x3 (j : Int)) 3
  | 0, j, x3, hd, hx, ⟨i, a, b, _⟩ => by omega
  | d + 1, j, x3, hd, hx, ⟨i, a, b, c⟩ => by
    by_cases hfj : Fm t.length (J49 t (j : Int))
    · have hne : i ≠ j := fun e => c (e ▸ hfj)
      by_cases hl : Leaf (J49 t (j : Int))
      · exact Ev.succ (Ev.succ ((rc_notgood t ht d (j + 1) x3 (by omega) hx ⟨i, by omega, b, c⟩).congr fun k => rc_leaf k t x3 j (by omega) ht hx hfj hl))
      · exact Ev.succ (Ev.succ ((rc_notgood t ht d (j + 1) _ (by omega) (by simpa using hx) ⟨i, by omega, b, c⟩).congr fun k => rc_node k t x3 j (by omega) ht hx hfj hl))
    · exact Ev.succ (Ev.succ ((Ev.const 3).congr fun k => rc_bad k t x3 j (by omega) hx hfj))
theorem rc_l1_good (t : List S49) (ht : t.length ≤ 1000000) (hn : 0 < t.length) (x : List Int) (hx : x.length = t.length) (h0 : rd x 0 = 0) (r : List Int) (hr : Ev (fun k => larchref17_Order.f k t 0) r) : ∀ d (j : Nat), 1 ≤ j → j + d = t.length → (∀ i, j ≤ i → i < t.length → rd x (i : Int) = 1) →
    Ev (fun k => larchref17_Check.l1 k t x (j : Int)) (if r.length = t.length then 0 else 3)
  | 0, j, hj, hd, hi => by
    refine Ev.succ (Ev.congr (g := fun k => (larchref17_Order.f k t 0).bind fun t334 => if (t334.length : Int) = (t.length : Int) then some 0 else some 3) (Ev.bind hr ?_) fun k => ?_)
    · by_cases e : r.length = t.length
      · rw [if_pos e]
        simp only [e, if_true]
        exact Ev.const 0
      · rw [if_neg e]
        refine (Ev.const 3).congr fun k => ?_
        rw [if_neg (by omega)]
    · simp only [larchref17_Check.l1]
      rw [if_neg (by omega), if_pos (by omega), if_pos h0]
  | d + 1, j, hj, hd, hi => by
    refine Ev.succ ((rc_l1_good t ht hn x hx h0 r hr d (j + 1) (by omega) (by omega) (fun i a b => hi i (by omega) b)).congr fun k => ?_)
    simp only [larchref17_Check.l1]
    rw [if_pos (by omega), if_pos (by omega), if_pos (by omega), if_pos (hi j (by omega) (by omega)), wrap_succ (by omega)]
theorem rc_l1_bad (t : List S49) (ht : t.length ≤ 1000000) (hn : 0 < t.length) (x : List Int) (hx : x.length = t.length) (hb : rd x 0 ≠ 0 ∨ ∃ i, 1 ≤ i ∧ i < t.length ∧ rd x (i : Int) ≠ 1) : ∀ d (j : Nat), 1 ≤ j → j + d = t.length → (∀ i, 1 ≤ i → i < j → rd x (i : Int) = 1) →
    Ev (fun k => larchref17_Check.l1 k t x (j : Int)) 3
  | 0, j, hj, hd, hi => by
    refine Ev.succ ((Ev.const 3).congr fun k => ?_)
    simp only [larchref17_Check.l1]
    have h0 : rd x 0 ≠ 0 := by
      rcases hb with h | ⟨i, a, b, c⟩
      · exact h
      · exact absurd (hi i a (by omega)) c
    rw [if_neg (by omega), if_pos (by omega), if_neg h0]
  | d + 1, j, hj, hd, hi => by
    by_cases c : rd x (j : Int) = 1
    · refine Ev.succ ((rc_l1_bad t ht hn x hx hb d (j + 1) (by omega) (by omega) (fun i a b => by
        by_cases e : i = j
        · subst e; exact c
        · exact hi i a (by omega))).congr fun k => ?_)
      simp only [larchref17_Check.l1]
      rw [if_pos (by omega), if_pos (by omega), if_pos (by omega), if_pos c, wrap_succ (by omega)]
    · refine Ev.succ ((Ev.const 3).congr fun k => ?_)
      simp only [larchref17_Check.l1]
      rw [if_pos (by omega), if_pos (by omega), if_pos (by omega), if_neg c]
theorem tc_good (t : List S49) (ht : t.length ≤ 1000000) (r : List Int) (hr : Ev (fun k => table_order.f k t 0) r) : ∀ d (j : Nat), j + d = t.length → (∀ i, j ≤ i → i < t.length → Fm t.length (J49 t (i : Int))) →
    Ev (fun k => table_Check.l0 k t t (t.length : Int) (j : Int)) (if r.length = t.length then 0 else 3)
  | 0, j, hd, hi => by
    refine Ev.succ (Ev.congr (g := fun k => (table_order.f k t 0).bind fun t132 => if (t132.length : Int) = (t.length : Int) then some 0 else some 3) (Ev.bind hr ?_) fun k => ?_)
    · by_cases e : r.length = t.length
      · rw [if_pos e]
        simp only [e, if_true]
        exact Ev.const 0
      · rw [if_neg e]
        refine (Ev.const 3).congr fun k => ?_
        rw [if_neg (by omega)]
    · simp only [table_Check.l0]
      rw [if_neg (by omega)]
  | d + 1, j, hd, hi => by
    refine Ev.succ ((tc_good t ht r hr d (j + 1) (by omega) (fun i a b => hi i (by omega) b)).congr fun k => ?_)
    simp only [table_Check.l0, formedF, Option.bind_some]
    rw [if_pos (by omega), if_pos (by omega), if_pos (by omega), if_pos (by simpa using hi j (by omega) (by omega)), wrap_succ (by omega)]
theorem tc_bad (t : List S49) (ht : t.length ≤ 1000000) : ∀ d (j : Nat), j + d = t.length → (∃ i, j ≤ i ∧ i < t.length ∧ ¬ Fm t.length (J49 t (i : Int))) →
    Ev (fun k => table_Check.l0 k t t (t.length : Int) (j : Int)) 3
  | 0, j, hd, ⟨i, a, b, c⟩ => by omega
  | d + 1, j, hd, ⟨i, a, b, c⟩ => by
    by_cases hfj : Fm t.length (J49 t (j : Int))
    · have hne : i ≠ j := fun e => c (e ▸ hfj)
      refine Ev.succ ((tc_bad t ht d (j + 1) (by omega) ⟨i, by omega, b, c⟩).congr fun k => ?_)
      simp only [table_Check.l0, formedF, Option.bind_some]
      rw [if_pos (by omega), if_pos (by omega), if_pos (by omega), if_pos (by simpa using hfj), wrap_succ (by omega)]
    · refine Ev.succ ((Ev.const 3).congr fun k => ?_)
      simp only [table_Check.l0, formedF, Option.bind_some]
      rw [if_pos (by omega), if_pos (by omega), if_pos (by omega), if_neg (by simpa using hfj)]
structure Sound (t : List S49) (l : List Int) : Prop where
  pos : 0 < t.length
  small : t.length ≤ 100000
  fm : ∀ i, InT t i → Fm t.length (J49 t i)
  tr : Tr t 0 l
  nodup : l.Nodup
  len : l.length = t.length
theorem Fm.kids_in {t : List S49} (hf : ∀ i, InT t i → Fm t.length (J49 t i)) : ∀ p, InT t p → ∀ c ∈ kids t p, InT t c ∧ 1 ≤ c := by
  intro p hp c hc
  have h := hf p hp
  unfold kids at hc
  split at hc
  · simp at hc
  · rename_i hl
    rcases h.2.2 with h | h
    · exact absurd h hl
    · simp at hc
      unfold InT
      rcases hc with rfl | rfl <;> omega
theorem check_both (t : List S49) (ht : t.length ≤ 1048576) : (∃ e : Int, (e = 2 ∨ e = 3) ∧ Ev (fun k => table_Check.f k t) e ∧ Ev (fun k => larchref17_Check.f k t) e) ∨ (Ev (fun k => table_Check.f k t) 0 ∧ Ev (fun k => larchref17_Check.f k t) 0 ∧ ∃ l, Sound t l) := by
  by_cases hbig : t.length > 100000
  · refine .inl ⟨2, by decide, (Ev.const 2).congr fun k => ?_, (Ev.const 2).congr fun k => ?_⟩
    · unfold table_Check.f; rw [if_pos (by omega)]
    · unfold larchref17_Check.f; rw [if_pos (by omega)]
  by_cases hz : t.length = 0
  · refine .inl ⟨3, by decide, (Ev.const 3).congr fun k => ?_, (Ev.const 3).congr fun k => ?_⟩
    · unfold table_Check.f; rw [if_neg (by omega), if_pos (by omega)]
    · unfold larchref17_Check.f; rw [if_neg (by omega), if_pos (by omega)]
  have eT : ∀ k, table_Check.f k t = table_Check.l0 k t t (t.length : Int) ((0 : Nat) : Int) := fun k => by unfold table_Check.f; rw [if_neg (by omega), if_neg (by omega)]; rfl
  have eR : ∀ k, larchref17_Check.f k t = larchref17_Check.l0 k t (List.replicate t.length 0) ((0 : Nat) : Int) := fun k => by unfold larchref17_Check.f; rw [if_neg (by omega), if_neg (by omega), if_pos (by omega), if_pos (by omega)]; rfl
  by_cases hall : ∀ i, 0 ≤ i → i < t.length → Fm t.length (J49 t (i : Int))
  rotate_left
  · have hbad : ∃ i, 0 ≤ i ∧ i < t.length ∧ ¬ Fm t.length (J49 t (i : Int)) := by
      simp only [Nat.zero_le, true_implies] at hall
      obtain ⟨i, hi⟩ := Classical.not_forall.1 hall
      obtain ⟨a, b⟩ := Classical.not_imp.1 hi
      exact ⟨i, Nat.zero_le _, a, b⟩
    exact .inl ⟨3, by decide, (tc_bad t (by omega) t.length 0 (by omega) hbad).congr eT, (rc_notgood t (by omega) t.length 0 _ (by omega) (by simp) hbad).congr eR⟩
  have hfm : ∀ i, InT t i → Fm t.length (J49 t i) := by
    intro i hi
    have := hall i.toNat (by omega) (by have := hi.2; have := hi.1; omega)
    rwa [Int.toNat_of_nonneg hi.1] at this
  have hkids := Fm.kids_in hfm
  have h0 : InT t 0 := ⟨by omega, by omega⟩
  obtain ⟨r, hr, hcase⟩ := order_run (t := t) (fun p hp c hc => (hkids p hp c hc).1) (by omega) t.length [] [0] _ (by simp) (Met.start t) (by simp) (by simp) (by simpa using h0) (by simp) (by
    intro i
    by_cases e : i = 0
    · subst e; simp
    · rw [if_neg e, List.count_singleton]
      simp
      exact fun h => e h.symm)
  have hrf : Ev (fun k => table_order.f k t 0) r := by
    refine hr.congr fun k => ?_
    unfold table_order.f
    rw [if_pos (by omega), if_pos (by omega)]
    rfl
  have hT := (tc_good t (by omega) r hrf t.length 0 (by omega) hall).congr eT
  -- the document's
  have hpar0 : ∀ i, InT t i → rd (List.replicate t.length 0) i = par t 0 i := by
    intro i hi
    unfold rd par
    rw [List.getD_eq_getElem?_getD, List.getElem?_replicate]
    split <;> simp
  have hpl : ∀ i, par t t.length i = ((places t).flatMap (kids t)).count i := fun i => rfl
  by_cases hpok : ∀ i : Nat, 1 ≤ i → i < t.length → par t t.length (i : Int) = 1
  · have hp0 : par t t.length 0 = 0 := by
      rw [hpl]
      rw [List.count_eq_zero]
      intro hm
      obtain ⟨p, hp, hc⟩ := List.mem_flatMap.1 hm
      have := (hkids p (mem_places.1 hp) 0 hc).2
      omega
    rcases hcase with ⟨rfl, out', i, hn', ho', h2⟩ | ⟨hn, hin, ls, htrs, rfl⟩
    · exfalso
      have h3 := flat_le i hn' ho'
      rw [← hpl] at h3
      by_cases e : i = 0
      · subst e
        rw [hp0] at h3
        simp at h2
        omega
      · rw [if_neg e] at h2
        have hpos : 0 < (out'.flatMap (kids t)).count i := by omega
        obtain ⟨p, hp, hc⟩ := List.mem_flatMap.1 (List.count_pos_iff.1 hpos)
        have hin := hkids p (ho' p hp) i hc
        have := hpok i.toNat (by omega) (by have := hin.1.2; omega)
        rw [Int.toNat_of_nonneg (by omega)] at this
        omega
    · simp only [List.reverse_cons, List.reverse_nil, List.nil_append] at htrs
      cases htrs with
      | @cons _ _ l ls2 htr hrest =>
        cases hrest
        simp only [List.append_nil, List.nil_append] at *
        have hlen := nodup_length hn hin
        have hO := Order_of htr (by omega)
        have hR : Ev (fun k => larchref17_Check.f k t) (if l.length = t.length then 0 else 3) := by
          refine (rc_good t (by omega) _ t.length 0 _ (by omega) (by simp) hall hpar0 (fun x' hx' hi' => ?_)).congr eR
          refine rc_l1_good t (by omega) (by omega) x' hx' (by rw [hi' 0 h0, hp0]; rfl) l hO (t.length - 1) 1 (by omega) (by omega) (fun i a b => ?_)
          rw [hi' (i : Int) ⟨by omega, by omega⟩, hpok i a b]
          rfl
        by_cases e : l.length = t.length
        · rw [if_pos e] at hT hR
          exact .inr ⟨hT, hR, l, ⟨by omega, by omega, hfm, htr, hn, e⟩⟩
        · rw [if_neg e] at hT hR
          exact .inl ⟨3, by decide, hT, hR⟩
  · have hbad : ∃ i : Nat, 1 ≤ i ∧ i < t.length ∧ par t t.length (i : Int) ≠ 1 := by
      obtain ⟨i, hi⟩ := Classical.not_forall.1 hpok
      obtain ⟨a, hi⟩ := Classical.not_imp.1 hi
      obtain ⟨b, c⟩ := Classical.not_imp.1 hi
      exact ⟨i, a, b, c⟩
    have hR : Ev (fun k => larchref17_Check.f k t) 3 := by
      refine (rc_good t (by omega) _ t.length 0 _ (by omega) (by simp) hall hpar0 (fun x' hx' hi' => ?_)).congr eR
      refine rc_l1_bad t (by omega) (by omega) x' hx' (.inr ?_) (t.length - 1) 1 (by omega) (by omega) (fun i a b => by omega)
      obtain ⟨i, a, b, c⟩ := hbad
      refine ⟨i, a, b, ?_⟩
      rw [hi' (i : Int) ⟨by omega, by omega⟩]
      omega
    have hne : r.length ≠ t.length := by
      intro e
      rcases hcase with ⟨rfl, _⟩ | ⟨hn, hin, ls, htrs, rfl⟩
      · simp at e; omega
      · simp only [List.reverse_cons, List.reverse_nil, List.nil_append] at htrs
        cases htrs with
        | @cons _ _ l ls2 htr hrest =>
          cases hrest
          simp only [List.append_nil, List.nil_append] at *
          obtain ⟨i, a, b, c⟩ := hbad
          -- every place is in l
          have hmem : (i : Int) ∈ l := by
            refine Decidable.byContradiction fun hno => ?_
            have := nodup_length (t := t) (l := (i : Int) :: l) (by rw [List.nodup_cons]; exact ⟨hno, hn⟩) (fun x hx => by
              simp at hx
              rcases hx with rfl | hx
              · exact ⟨by omega, by omega⟩
              · exact hin x hx)
            simp at this
            omega
          have hc := htr.count (i : Int)
          have h1 : l.count (i : Int) = 1 := by
            have h2 : l.count (i : Int) ≤ 1 := List.nodup_iff_count.1 hn (i : Int)
            have h3 : 0 < l.count (i : Int) := List.count_pos_iff.2 hmem
            omega
          rw [h1, if_neg (by omega)] at hc
          -- the count over l is the count over all places
          have hge := flat_le (i : Int) hn hin
          have hle : ((places t).flatMap (kids t)).count (i : Int) ≤ (l.flatMap (kids t)).count (i : Int) := by
            rw [count_flat, count_flat]
            refine sum_le _ (places t) l ?_ (fun x hx => ?_)
            · unfold places
              rw [List.nodup_iff_pairwise_ne, List.pairwise_map]
              exact List.nodup_range.imp (fun h e => h (Int.ofNat.inj e))
            · refine Decidable.byContradiction fun hno => ?_
              have hx' := mem_places.1 hx
              have := nodup_length (t := t) (l := x :: l) (by rw [List.nodup_cons]; exact ⟨hno, hn⟩) (fun y hy => by
                simp at hy
                rcases hy with rfl | hy
                · exact hx'
                · exact hin y hy)
              simp at this
              omega
          rw [hpl] at c
          omega
    rw [if_neg hne] at hT
    exact .inl ⟨3, by decide, hT, hR⟩
end Go.Proofs.Ytmmjkebboonnkaa.P
/- P4 -/
namespace Go.Proofs.Ytmmjkebboonnkaa.P
open Go.RowKit Go.Proofs.YtmmjkebboonnkaaW.PrintWords Go.Proofs.YtmmjkebboonnkaaW.PrintLast Go.Proofs.YtmmjkebboonnkaaW.PrintMore
theorem rd_mem {l : List Int} {j : Nat} (h : j < l.length) : rd l (j : Int) ∈ l := by
  unfold rd
  rw [Int.toNat_natCast, List.getD_eq_getElem?_getD, List.getElem?_eq_getElem h]
  exact List.getElem_mem h
theorem mem_rd {l : List Int} {x : Int} (h : x ∈ l) : ∃ j : Nat, j < l.length ∧ rd l (j : Int) = x := by
  obtain ⟨j, hj, e⟩ := List.getElem_of_mem h
  refine ⟨j, hj, ?_⟩
  unfold rd
  rw [Int.toNat_natCast, List.getD_eq_getElem?_getD, List.getElem?_eq_getElem hj]
  exact e
theorem Sound.mem {t l} (S : Sound t l) {x : Int} (hx : InT t x) : x ∈ l := by
  refine Decidable.byContradiction fun hno => ?_
  have := nodup_length (t := t) (l := x :: l) (by rw [List.nodup_cons]; exact ⟨hno, S.nodup⟩) (fun y hy => by
    simp at hy
    rcases hy with rfl | hy
    · exact hx
    · exact S.tr.all y hy)
  have e := S.len
  simp at this
  omega
theorem Sound.sub {t l} (S : Sound t l) {x : Int} (hx : InT t x) : ∃ lp, Tr t x lp ∧ lp.Sublist l := S.tr.sub x (S.mem hx)
theorem Sound.kid {t l} (S : Sound t l) {p : Int} (hp : InT t p) {c : Int} (hc : c ∈ kids t p) : InT t c ∧ 1 ≤ c := Fm.kids_in S.fm p hp c hc
theorem Sound.left {t l} (S : Sound t l) {p : Int} (hp : InT t p) (hl : ¬ Leaf (J49 t p)) : InT t (J49 t p).f4 ∧ 1 ≤ (J49 t p).f4 := S.kid hp (by unfold kids; rw [if_neg hl]; simp)
theorem Sound.right {t l} (S : Sound t l) {p : Int} (hp : InT t p) (hl : ¬ Leaf (J49 t p)) : InT t (J49 t p).f5 ∧ 1 ≤ (J49 t p).f5 := S.kid hp (by unfold kids; rw [if_neg hl]; simp)
theorem Sound.neg {t l} (S : Sound t l) (q : Int) (hq : InT t q) : (J49 t q).f4 ≥ 0 ↔ ¬ Leaf (J49 t q) := by
  constructor
  · intro h hl
    unfold Leaf at hl
    omega
  · intro hl
    have := (S.left hq hl).2
    omega
theorem count_one_of {l : List Int} {f : Int → Nat} {p q : Int} (hp : p ∈ l) (hq : q ∈ l) (hne : p ≠ q) : f p + f q ≤ (l.map f).sum := by
  have h1 := sum_erase f p l hp
  have h2 := sum_erase f q (l.erase p) ((List.mem_erase_of_ne (Ne.symm hne)).2 hq)
  omega
theorem Sound.one {t l} (S : Sound t l) {p q c : Int} (hp : InT t p) (hq : InT t q) (h1 : c ∈ kids t p) (h2 : c ∈ kids t q) : p = q := by
  refine Decidable.byContradiction fun hne => ?_
  have hc := S.tr.count c
  have h3 : l.count c ≤ 1 := List.nodup_iff_count.1 S.nodup c
  have h4 := count_one_of (f := fun p => (kids t p).count c) (S.mem hp) (S.mem hq) hne
  rw [← count_flat] at h4
  have h5 : 0 < (kids t p).count c := List.count_pos_iff.2 h1
  have h6 : 0 < (kids t q).count c := List.count_pos_iff.2 h2
  omega
def Sen (n : S49) : Prop := Leaf n ∧ n.f1 = 1 ∧ n.f2 = 1
instance (n : S49) : Decidable (Sen n) := by unfold Sen; infer_instance
def Crown (t : List S49) (n : S49) : Prop := ¬ Leaf n ∧ n.f1 = 1 ∧ n.f2 = 1 ∧ Sen (J49 t n.f5)
instance (t : List S49) (n : S49) : Decidable (Crown t n) := by unfold Crown; infer_instance
theorem senT {m : Int} {n : S49} (h : Fm m n) : (n.f0 == 0 && (n.f1 == 1 && (n.f2 == 1 && (n.f3 == 0 && (n.f4 == (-1) && n.f5 == (-1)))))) = decide (Sen n) := by
  rw [Bool.eq_iff_iff]
  simp only [Bool.and_eq_true, beq_iff_eq, decide_eq_true_eq]
  unfold Sen Leaf
  unfold Fm at h
  omega
theorem senR (n : S49) : larchref17_sentinel.f n.f0 n.f1 n.f2 n.f3 n.f4 n.f5 = some (decide (Sen n)) := by
  unfold larchref17_sentinel.f Sen
  simp only [leafF, Option.bind_some, decide_eq_true_eq]
  by_cases h : Leaf n
  · rw [if_pos h]
    by_cases h1 : n.f1 = 1
    · rw [if_pos h1]; simp [h, h1, Bool.beq_eq_decide_eq]
    · rw [if_neg h1]; simp [h1]
  · rw [if_neg h]; simp [h]
theorem crownT {t : List S49} {n : S49} (hr : ¬ Leaf n → InT t n.f5 ∧ Fm t.length (J49 t n.f5)) : table_crowned.f t n.f0 n.f1 n.f2 n.f3 n.f4 n.f5 = some (decide (Crown t n)) := by
  unfold table_crowned.f Crown
  simp only [isLeafF, Option.bind_some, decide_eq_true_eq, table_sentinel.f]
  by_cases h : Leaf n
  · rw [if_pos h]; simp [h]
  · obtain ⟨⟨a, b⟩, c⟩ := hr h
    rw [if_neg h]
    by_cases h1 : n.f1 = 1
    · rw [if_pos h1]
      by_cases h2 : n.f2 = 1
      · rw [if_pos h2, if_pos a, if_pos b, senT c]; simp [h, h1, h2]
      · rw [if_neg h2]; simp [h2]
    · rw [if_neg h1]; simp [h1]
theorem tR_good (t : List S49) (lp : List Int) (a b c d e f : Int) (hin : ∀ x ∈ lp, InT t x) (hl : lp.length ≤ 1000000) : ∀ n (j : Nat), j + n = lp.length → (∀ i, j ≤ i → i < lp.length → (J49 t (rd lp (i : Int))).f1 = 0) → Ev (fun k => table_Root.l0 k t lp (lp.length : Int) (j : Int) a b c d e f) (e, 0)
  | 0, j, hj, hi => by
    refine Ev.succ ((Ev.const (e, 0)).congr fun k => ?_)
    simp only [table_Root.l0]
    rw [if_neg (by omega)]
  | n + 1, j, hj, hi => by
    refine Ev.succ ((tR_good t lp a b c d e f hin hl n (j + 1) (by omega) (fun i x y => hi i (by omega) y)).congr fun k => ?_)
    obtain ⟨h0, h1⟩ := hin _ (rd_mem (l := lp) (j := j) (by omega))
    simp only [table_Root.l0]
    rw [if_pos (by omega), if_pos (by omega), if_pos (by omega), if_pos h0, if_pos h1, if_pos (hi j (by omega) (by omega)), wrap_succ (by omega)]
theorem tR_bad (t : List S49) (lp : List Int) (a b c d e f : Int) (hin : ∀ x ∈ lp, InT t x) (hl : lp.length ≤ 1000000) : ∀ n (j : Nat), j + n = lp.length → (∃ i, j ≤ i ∧ i < lp.length ∧ (J49 t (rd lp (i : Int))).f1 ≠ 0) → Ev (fun k => table_Root.l0 k t lp (lp.length : Int) (j : Int) a b c d e f) (0, 3)
  | 0, j, hj, ⟨i, x, y, z⟩ => by omega
  | n + 1, j, hj, ⟨i, x, y, z⟩ => by
    obtain ⟨h0, h1⟩ := hin _ (rd_mem (l := lp) (j := j) (by omega))
    by_cases hz : (J49 t (rd lp (j : Int))).f1 = 0
    · have hne : i ≠ j := fun e => z (e ▸ hz)
      refine Ev.succ ((tR_bad t lp a b c d e f hin hl n (j + 1) (by omega) ⟨i, by omega, y, z⟩).congr fun k => ?_)
      simp only [table_Root.l0]
      rw [if_pos (by omega), if_pos (by omega), if_pos (by omega), if_pos h0, if_pos h1, if_pos hz, wrap_succ (by omega)]
    · refine Ev.succ ((Ev.const (0, 3)).congr fun k => ?_)
      simp only [table_Root.l0]
      rw [if_pos (by omega), if_pos (by omega), if_pos (by omega), if_pos h0, if_pos h1, if_neg hz]
theorem rR_good (t : List S49) (lp : List Int) (a b c d e f : Int) (hin : ∀ x ∈ lp, InT t x) (hl : lp.length ≤ 1000000) : ∀ n (j : Nat), j + n = lp.length → (∀ i, j ≤ i → i < lp.length → (J49 t (rd lp (i : Int))).f1 = 0) → Ev (fun k => larchref17_Root.l0 k t lp (j : Int) a b c d e f) (e, true)
  | 0, j, hj, hi => by
    refine Ev.succ ((Ev.const (e, true)).congr fun k => ?_)
    simp only [larchref17_Root.l0]
    rw [if_neg (by omega)]
  | n + 1, j, hj, hi => by
    refine Ev.succ ((rR_good t lp a b c d e f hin hl n (j + 1) (by omega) (fun i x y => hi i (by omega) y)).congr fun k => ?_)
    obtain ⟨h0, h1⟩ := hin _ (rd_mem (l := lp) (j := j) (by omega))
    simp only [larchref17_Root.l0]
    rw [if_pos (by omega), if_pos (by omega), if_pos h0, if_pos h1, if_pos (hi j (by omega) (by omega)), wrap_succ (by omega)]
theorem rR_bad (t : List S49) (lp : List Int) (a b c d e f : Int) (hin : ∀ x ∈ lp, InT t x) (hl : lp.length ≤ 1000000) : ∀ n (j : Nat), j + n = lp.length → (∃ i, j ≤ i ∧ i < lp.length ∧ (J49 t (rd lp (i : Int))).f1 ≠ 0) → Ev (fun k => larchref17_Root.l0 k t lp (j : Int) a b c d e f) (-1, false)
  | 0, j, hj, ⟨i, x, y, z⟩ => by omega
  | n + 1, j, hj, ⟨i, x, y, z⟩ => by
    obtain ⟨h0, h1⟩ := hin _ (rd_mem (l := lp) (j := j) (by omega))
    by_cases hz : (J49 t (rd lp (j : Int))).f1 = 0
    · have hne : i ≠ j := fun e => z (e ▸ hz)
      refine Ev.succ ((rR_bad t lp a b c d e f hin hl n (j + 1) (by omega) ⟨i, by omega, y, z⟩).congr fun k => ?_)
      simp only [larchref17_Root.l0]
      rw [if_pos (by omega), if_pos (by omega), if_pos h0, if_pos h1, if_pos hz, wrap_succ (by omega)]
    · refine Ev.succ ((Ev.const (-1, false)).congr fun k => ?_)
      simp only [larchref17_Root.l0]
      rw [if_pos (by omega), if_pos (by omega), if_pos h0, if_pos h1, if_neg hz]
structure Keys (t : List S49) (l : List Int) (p : Int) (lp : List Int) : Prop where
  c0 : Crown t (J49 t 0)
  c1 : Crown t (J49 t (J49 t 0).f4)
  isP : p = (J49 t (J49 t 0).f4).f4
  tr : Tr t p lp
  sub : lp.Sublist l
  inf : ∀ x ∈ lp, (J49 t x).f1 = 0
theorem root_both {t : List S49} {l : List Int} (S : Sound t l) (hT : Ev (fun k => table_Check.f k t) 0) :
    (∃ p lp, Keys t l p lp ∧ Ev (fun k => table_Root.f k t) (p, 0) ∧ Ev (fun k => larchref17_Root.f k t) (p, true)) ∨
    (Crown t (J49 t 0) ∧ Sen (J49 t (J49 t 0).f4) ∧ Ev (fun k => table_Root.f k t) (0, 4) ∧ Ev (fun k => larchref17_Root.f k t) (-1, true)) ∨
    (Ev (fun k => table_Root.f k t) (0, 3) ∧ Ev (fun k => larchref17_Root.f k t) (-1, false)) := by
  have h0 : InT t 0 := ⟨by omega, by have := S.pos; omega⟩
  have hsm := S.small
  have hcr : ∀ q, InT t q → table_crowned.f t (J49 t q).f0 (J49 t q).f1 (J49 t q).f2 (J49 t q).f3 (J49 t q).f4 (J49 t q).f5 = some (decide (Crown t (J49 t q))) := fun q hq => crownT fun hl => ⟨(S.right hq hl).1, S.fm _ (S.right hq hl).1⟩
  have eT : ∀ v, Ev (fun k => (if Crown t (J49 t 0) then (if 0 ≤ (J49 t 0).f4 then (if (J49 t 0).f4 < (t.length : Int) then (if Sen (J49 t (J49 t 0).f4) then (some ((0 : Int), (4 : Int))) else (table_crowned.f t (J49 t (J49 t 0).f4).f0 (J49 t (J49 t 0).f4).f1 (J49 t (J49 t 0).f4).f2 (J49 t (J49 t 0).f4).f3 (J49 t (J49 t 0).f4).f4 (J49 t (J49 t 0).f4).f5).bind fun t157 => if t157 = true then (table_order.f k t (J49 t (J49 t 0).f4).f4).bind fun t158 => table_Root.l0 k t t158 (t158.length : Int) 0 (J49 t (J49 t 0).f4).f0 (J49 t (J49 t 0).f4).f1 (J49 t (J49 t 0).f4).f2 (J49 t (J49 t 0).f4).f3 (J49 t (J49 t 0).f4).f4 (J49 t (J49 t 0).f4).f5 else some (0, 3)) else none) else none) else some (0, 3))) v → Ev (fun k => table_Root.f k t) v := by
    intro v hv
    unfold table_Root.f
    refine Ev.bind (x := 0) hT (hv.congr fun k => ?_)
    rw [if_pos rfl, if_pos h0.2, hcr 0 h0]
    simp only [Option.bind_some, decide_eq_true_eq, table_sentinel.f]
    by_cases hc : Crown t (J49 t 0)
    · have hL := S.left h0 hc.1
      rw [if_pos hc, if_pos hc, senT (S.fm _ hL.1)]
      simp only [decide_eq_true_eq]
    · rw [if_neg hc, if_neg hc]
  have eR : ∀ v, (¬ Crown t (J49 t 0) → Ev (fun _ => some ((-1 : Int), false)) v) → (Crown t (J49 t 0) → Sen (J49 t (J49 t 0).f4) → Ev (fun _ => some ((-1 : Int), true)) v) → (Crown t (J49 t 0) → ¬ Sen (J49 t (J49 t 0).f4) → ¬ Crown t (J49 t (J49 t 0).f4) → Ev (fun _ => some ((-1 : Int), false)) v) → (Crown t (J49 t 0) → ¬ Sen (J49 t (J49 t 0).f4) → Crown t (J49 t (J49 t 0).f4) → Ev (fun k => (larchref17_Order.f k t (J49 t (J49 t 0).f4).f4).bind fun t317 => larchref17_Root.l0 k t t317 0 (J49 t (J49 t 0).f4).f0 (J49 t (J49 t 0).f4).f1 (J49 t (J49 t 0).f4).f2 (J49 t (J49 t 0).f4).f3 (J49 t (J49 t 0).f4).f4 (J49 t (J49 t 0).f4).f5) v) → Ev (fun k => larchref17_Root.f k t) v := by
    intro v v1 v2 v3 v4
    unfold larchref17_Root.f
    have j0t : ∀ a b c d e f, Ev (fun _ => some ((-1 : Int), false)) v → Ev (fun k => larchref17_Root.j0 k t true a b c d e f) v := fun a b c d e f hv => Ev.succ (hv.congr fun k => by simp only [larchref17_Root.j0, if_true])
    have j1t : ∀ a b c d e f, Ev (fun _ => some ((-1 : Int), false)) v → Ev (fun k => larchref17_Root.j1 k t true a b c d e f) v := fun a b c d e f hv => Ev.succ (hv.congr fun k => by simp only [larchref17_Root.j1, if_true])
    refine Ev.congr (g := fun k => if Leaf (J49 t 0) then larchref17_Root.j0 k t true ((J49 t 0).f0) ((J49 t 0).f1) ((J49 t 0).f2) ((J49 t 0).f3) ((J49 t 0).f4) ((J49 t 0).f5) else if (J49 t 0).f1 = 1 then (if (J49 t 0).f2 = 1 then larchref17_Root.j0 k t (!decide (Sen (J49 t (J49 t 0).f5))) ((J49 t 0).f0) ((J49 t 0).f1) ((J49 t 0).f2) ((J49 t 0).f3) ((J49 t 0).f4) ((J49 t 0).f5) else larchref17_Root.j0 k t true ((J49 t 0).f0) ((J49 t 0).f1) ((J49 t 0).f2) ((J49 t 0).f3) ((J49 t 0).f4) ((J49 t 0).f5)) else larchref17_Root.j0 k t true ((J49 t 0).f0) ((J49 t 0).f1) ((J49 t 0).f2) ((J49 t 0).f3) ((J49 t 0).f4) ((J49 t 0).f5)) ?_ fun k => ?_
    rotate_left
    · rw [if_pos h0.2]
      simp only [leafF, Option.bind_some, decide_eq_true_eq, senR]
      by_cases hl : Leaf (J49 t 0)
      · rw [if_pos hl, if_pos hl]
      · rw [if_neg hl, if_neg hl]
        have hR := S.right h0 hl
        rw [if_pos hR.1.1, if_pos hR.1.2]
    · by_cases hl : Leaf (J49 t 0)
      · simp only [if_pos hl]
        exact j0t _ _ _ _ _ _ (v1 fun h => h.1 hl)
      · simp only [if_neg hl]
        by_cases h1 : (J49 t 0).f1 = 1
        rotate_left
        · simp only [if_neg h1]
          exact j0t _ _ _ _ _ _ (v1 fun h => h1 h.2.1)
        simp only [if_pos h1]
        by_cases h2 : (J49 t 0).f2 = 1
        rotate_left
        · simp only [if_neg h2]
          exact j0t _ _ _ _ _ _ (v1 fun h => h2 h.2.2.1)
        simp only [if_pos h2]
        by_cases h3 : Sen (J49 t (J49 t 0).f5)
        rotate_left
        · simp only [decide_eq_false h3, Bool.not_false]
          exact j0t _ _ _ _ _ _ (v1 fun h => h3 h.2.2.2)
        have hc : Crown t (J49 t 0) := ⟨hl, h1, h2, h3⟩
        have hL := S.left h0 hl
        simp only [decide_eq_true h3, Bool.not_true]
        by_cases hs : Sen (J49 t (J49 t 0).f4)
        · refine Ev.succ ((v2 hc hs).congr fun k => ?_)
          simp only [larchref17_Root.j0, senR, Option.bind_some]
          rw [if_neg (by simp), if_pos hL.1.1, if_pos hL.1.2, if_pos (by simpa using hs)]
        · refine Ev.succ (Ev.congr (g := fun k => if Leaf (J49 t (J49 t 0).f4) then larchref17_Root.j1 k t true (J49 t (J49 t 0).f4).f0 (J49 t (J49 t 0).f4).f1 (J49 t (J49 t 0).f4).f2 (J49 t (J49 t 0).f4).f3 (J49 t (J49 t 0).f4).f4 (J49 t (J49 t 0).f4).f5 else if (J49 t (J49 t 0).f4).f1 = 1 then (if (J49 t (J49 t 0).f4).f2 = 1 then larchref17_Root.j1 k t (!decide (Sen (J49 t (J49 t (J49 t 0).f4).f5))) (J49 t (J49 t 0).f4).f0 (J49 t (J49 t 0).f4).f1 (J49 t (J49 t 0).f4).f2 (J49 t (J49 t 0).f4).f3 (J49 t (J49 t 0).f4).f4 (J49 t (J49 t 0).f4).f5 else larchref17_Root.j1 k t true (J49 t (J49 t 0).f4).f0 (J49 t (J49 t 0).f4).f1 (J49 t (J49 t 0).f4).f2 (J49 t (J49 t 0).f4).f3 (J49 t (J49 t 0).f4).f4 (J49 t (J49 t 0).f4).f5) else larchref17_Root.j1 k t true (J49 t (J49 t 0).f4).f0 (J49 t (J49 t 0).f4).f1 (J49 t (J49 t 0).f4).f2 (J49 t (J49 t 0).f4).f3 (J49 t (J49 t 0).f4).f4 (J49 t (J49 t 0).f4).f5) ?_ fun k => ?_)
          rotate_left
          · simp only [larchref17_Root.j0, senR, leafF, Option.bind_some, decide_eq_true_eq]
            rw [if_neg (by simp), if_pos hL.1.1, if_pos hL.1.2, if_neg hs]
            by_cases hl1 : Leaf (J49 t (J49 t 0).f4)
            · rw [if_pos hl1, if_pos hl1]
            · rw [if_neg hl1, if_neg hl1]
              have hR1 := S.right hL.1 hl1
              rw [if_pos hR1.1.1, if_pos hR1.1.2]
          · by_cases hl1 : Leaf (J49 t (J49 t 0).f4)
            · simp only [if_pos hl1]
              exact j1t _ _ _ _ _ _ (v3 hc hs fun h => h.1 hl1)
            · simp only [if_neg hl1]
              by_cases g1 : (J49 t (J49 t 0).f4).f1 = 1
              rotate_left
              · simp only [if_neg g1]
                exact j1t _ _ _ _ _ _ (v3 hc hs fun h => g1 h.2.1)
              simp only [if_pos g1]
              by_cases g2 : (J49 t (J49 t 0).f4).f2 = 1
              rotate_left
              · simp only [if_neg g2]
                exact j1t _ _ _ _ _ _ (v3 hc hs fun h => g2 h.2.2.1)
              simp only [if_pos g2]
              by_cases g3 : Sen (J49 t (J49 t (J49 t 0).f4).f5)
              rotate_left
              · simp only [decide_eq_false g3, Bool.not_false]
                exact j1t _ _ _ _ _ _ (v3 hc hs fun h => g3 h.2.2.2)
              simp only [decide_eq_true g3, Bool.not_true]
              refine Ev.succ ((v4 hc hs ⟨hl1, g1, g2, g3⟩).congr fun k => ?_)
              simp only [larchref17_Root.j1]
              rw [if_neg (by simp)]
  by_cases hc : Crown t (J49 t 0)
  rotate_left
  · refine .inr (.inr ⟨eT _ ?_, eR _ (fun _ => Ev.const _) (fun h => absurd h hc) (fun h => absurd h hc) (fun h => absurd h hc)⟩)
    simp only [if_neg hc]
    exact Ev.const _
  have hL := S.left h0 hc.1
  by_cases hs : Sen (J49 t (J49 t 0).f4)
  · refine .inr (.inl ⟨hc, hs, eT _ ?_, eR _ (fun h => absurd hc h) (fun _ _ => Ev.const _) (fun _ h => absurd hs h) (fun _ h => absurd hs h)⟩)
    simp only [if_pos hc, if_pos hL.1.1, if_pos hL.1.2, if_pos hs]
    exact Ev.const _
  by_cases hc1 : Crown t (J49 t (J49 t 0).f4)
  rotate_left
  · refine .inr (.inr ⟨eT _ ?_, eR _ (fun h => absurd hc h) (fun _ h => absurd h hs) (fun _ _ _ => Ev.const _) (fun _ _ h => absurd h hc1)⟩)
    simp only [if_pos hc, if_pos hL.1.1, if_pos hL.1.2, if_neg hs, hcr _ hL.1, Option.bind_some, decide_eq_true_eq, if_neg hc1]
    exact Ev.const _
  have hP := S.left hL.1 hc1.1
  obtain ⟨lp, htr, hsub⟩ := S.sub hP.1
  have hlen : lp.length ≤ 100000 := by have := hsub.length_le; have := S.len; omega
  have hO := Order_of htr (by omega)
  have ho := order_of htr (hsub.nodup S.nodup) (by omega) (by omega)
  by_cases hall : ∀ i : Nat, 0 ≤ i → i < lp.length → (J49 t (rd lp (i : Int))).f1 = 0
  · refine .inl ⟨_, lp, ⟨hc, hc1, rfl, htr, hsub, fun x hx => ?_⟩, eT _ ?_, eR _ (fun h => absurd hc h) (fun _ h => absurd h hs) (fun _ _ h => absurd hc1 h) (fun _ _ _ => ?_)⟩
    · obtain ⟨j, hj, rfl⟩ := mem_rd hx
      exact hall j (Nat.zero_le _) hj
    · simp only [if_pos hc, if_pos hL.1.1, if_pos hL.1.2, if_neg hs, hcr _ hL.1, Option.bind_some, decide_eq_true_eq, if_pos hc1]
      exact Ev.bind ho (tR_good t lp _ _ _ _ _ _ htr.all (by omega) lp.length 0 (by omega) hall)
    · exact Ev.bind hO (rR_good t lp _ _ _ _ _ _ htr.all (by omega) lp.length 0 (by omega) hall)
  · have hbad : ∃ i : Nat, 0 ≤ i ∧ i < lp.length ∧ (J49 t (rd lp (i : Int))).f1 ≠ 0 := by
      obtain ⟨i, hi⟩ := Classical.not_forall.1 hall
      obtain ⟨a, hi⟩ := Classical.not_imp.1 hi
      obtain ⟨b, c⟩ := Classical.not_imp.1 hi
      exact ⟨i, a, b, c⟩
    refine .inr (.inr ⟨eT _ ?_, eR _ (fun h => absurd hc h) (fun _ h => absurd h hs) (fun _ _ h => absurd hc1 h) (fun _ _ _ => ?_)⟩)
    · simp only [if_pos hc, if_pos hL.1.1, if_pos hL.1.2, if_neg hs, hcr _ hL.1, Option.bind_some, decide_eq_true_eq, if_pos hc1]
      exact Ev.bind ho (tR_bad t lp _ _ _ _ _ _ htr.all (by omega) lp.length 0 (by omega) hbad)
    · exact Ev.bind hO (rR_bad t lp _ _ _ _ _ _ htr.all (by omega) lp.length 0 (by omega) hbad)
def ParOK (t : List S49) (par : List Int) (j : Nat) : Prop := par.length = t.length ∧ ∀ p : Nat, p < j → ∀ c ∈ kids t (p : Int), rd par c = (p : Int)
theorem parents_go {t : List S49} {l : List Int} (S : Sound t l) : ∀ d (j : Nat) out, j + d = t.length → ParOK t out j → ∃ o, parentsGo t d j out = some o ∧ ParOK t o t.length
  | 0, j, out, hd, h => by
    have : j = t.length := by omega
    subst this
    exact ⟨out, rfl, h⟩
  | d + 1, j, out, hd, h => by
    have hj : InT t (j : Int) := ⟨by omega, by omega⟩
    by_cases hl : Leaf (J49 t (j : Int))
    · obtain ⟨o, a, b⟩ := parents_go S d (j + 1) out (by omega) ⟨h.1, fun p hp c hc => by
        by_cases e : p = j
        · subst e
          unfold kids at hc
          rw [if_pos hl] at hc
          simp at hc
        · exact h.2 p (by omega) c hc⟩
      refine ⟨o, ?_, b⟩
      simp only [parentsGo]
      rw [if_pos (show (J49 t (j : Int)).f4 = -1 ∧ (J49 t (j : Int)).f5 = -1 from hl)]
      exact a
    · have hL := S.left hj hl
      have hR := S.right hj hl
      obtain ⟨⟨a0, a1⟩, -⟩ := hL
      obtain ⟨⟨b0, b1⟩, -⟩ := hR
      have hk : kids t (j : Int) = [(J49 t (j : Int)).f4, (J49 t (j : Int)).f5] := by unfold kids; rw [if_neg hl]
      obtain ⟨o, a, b⟩ := parents_go S d (j + 1) ((out.set (J49 t (j : Int)).f4.toNat (j : Int)).set (J49 t (j : Int)).f5.toNat (j : Int)) (by omega) ⟨by simpa using h.1, fun p hp c hc => by
        have hcn := (S.kid (p := (p : Int)) ⟨by omega, by omega⟩ hc).1.1
        rw [rd_set _ _ _ _ (by simp [h.1]; omega) hcn, rd_set _ _ _ _ (by rw [h.1]; omega) hcn]
        by_cases e : p = j
        · subst e
          rw [hk] at hc
          simp at hc
          rcases hc with rfl | rfl
          · split
            · rfl
            · simp
          · simp
        · have n1 : c ≠ (J49 t (j : Int)).f5 := fun e2 => e (by
            have := S.one (p := (p : Int)) (q := (j : Int)) ⟨by omega, by omega⟩ hj hc (by rw [hk, e2]; simp)
            omega)
          have n2 : c ≠ (J49 t (j : Int)).f4 := fun e2 => e (by
            have := S.one (p := (p : Int)) (q := (j : Int)) ⟨by omega, by omega⟩ hj hc (by rw [hk, e2]; simp)
            omega)
          rw [if_neg n1, if_neg n2]
          exact h.2 p (by omega) c hc⟩
      refine ⟨o, ?_, b⟩
      simp only [parentsGo]
      rw [if_neg (show ¬ ((J49 t (j : Int)).f4 = -1 ∧ (J49 t (j : Int)).f5 = -1) from hl), if_pos ⟨⟨a0, by rw [h.1]; exact a1⟩, b0, by rw [h.1]; exact b1⟩]
      exact a
theorem parents_of {t : List S49} {l : List Int} (S : Sound t l) (hT : Ev (fun k => table_Check.f k t) 0) : ∃ par, Ev (fun k => table_Parents.f k t) (par, 0) ∧ ParOK t par t.length := by
  obtain ⟨o, a, b⟩ := parents_go S t.length 0 ((List.replicate t.length 0).set 0 (-1)) (by omega) ⟨by simp, fun p hp => by omega⟩
  refine ⟨o, ?_, b⟩
  unfold table_Parents.f
  refine Ev.bind hT ((Ev.const (o, 0)).congr fun k => ?_)
  have := S.pos
  have := S.small
  rw [if_pos rfl, if_pos (by omega), a]
  rfl
theorem keys_both (t : List S49) (ht : t.length ≤ 1048576) :
    (∃ e : Int, e ≠ 0 ∧ Ev (fun k => weigh_keys.f k t) ([], [], e) ∧ Ev (fun k => larchref17_keys.f k t) ([], e)) ∨
    (∃ lp par l, Sound t l ∧ Ev (fun k => table_Check.f k t) 0 ∧ Ev (fun k => larchref17_Check.f k t) 0 ∧ Ev (fun k => weigh_keys.f k t) (lp, par, 0) ∧ Ev (fun k => larchref17_keys.f k t) (lp, 0) ∧ lp.length ≤ 100000 ∧
      ((lp = [] ∧ Crown t (J49 t 0) ∧ Sen (J49 t (J49 t 0).f4) ∧ Ev (fun k => larchref17_Root.f k t) (-1, true)) ∨ (∃ p, Keys t l p lp ∧ ParOK t par t.length ∧ Ev (fun k => larchref17_Root.f k t) (p, true)))) := by
  rcases check_both t ht with ⟨e, he', hT, hR⟩ | ⟨hT, hR, l, S⟩
  · have he : e ≠ 0 := by omega
    refine .inl ⟨e, he, ?_, ?_⟩
    · unfold weigh_keys.f table_Root.f
      refine Ev.bind (x := (0, e)) (Ev.bind hT ((Ev.const _).congr fun k => by rw [if_neg he])) ?_
      have e4 : e ≠ 4 := by omega
      simp only [if_neg e4, if_neg he]
      exact Ev.const _
    · unfold larchref17_keys.f
      refine Ev.bind hR ((Ev.const _).congr fun k => by rw [if_neg he])
  · have hsm := S.small
    rcases root_both S hT with ⟨p, lp, K, rT, rR⟩ | ⟨hc, hs, rT, rR⟩ | ⟨rT, rR⟩
    · obtain ⟨par, hp, hpo⟩ := parents_of S hT
      have hlen : lp.length ≤ 100000 := by have := K.sub.length_le; have := S.len; omega
      refine .inr ⟨lp, par, l, S, hT, hR, ?_, ?_, hlen, .inr ⟨p, K, hpo, rR⟩⟩
      · unfold weigh_keys.f
        refine Ev.bind rT ?_
        simp only [reduceIte, show ¬ ((0 : Int) = 4) by decide]
        refine Ev.bind hp ?_
        have := wkeys_tr K.tr (fun q hq => S.neg q hq) (par := par) (out := []) (s := []) (r := (lp, par, 0)) (by simp; omega) (by simp; omega) (Ev.succ ((Ev.const _).congr fun k => wkeys_end k t par lp))
        exact this
      · unfold larchref17_keys.f
        refine Ev.bind hR ?_
        simp only [reduceIte]
        refine Ev.bind rR ?_
        have hp0 : ¬ p < 0 := by have := K.tr.inT.1; omega
        simp only [reduceIte, if_neg hp0]
        exact Ev.bind (Order_of K.tr (by omega)) (Ev.const _)
    · refine .inr ⟨[], [], l, S, hT, hR, ?_, ?_, by simp, .inl ⟨rfl, hc, hs, rR⟩⟩
      · unfold weigh_keys.f
        refine Ev.bind rT ?_
        simp only [reduceIte]
        exact Ev.const _
      · unfold larchref17_keys.f
        refine Ev.bind hR ?_
        simp only [reduceIte]
        refine Ev.bind rR ?_
        simp only [reduceIte, show ((-1 : Int) < 0) by decide]
        exact Ev.const _
    · refine .inl ⟨3, by decide, ?_, ?_⟩
      · unfold weigh_keys.f
        refine Ev.bind rT ?_
        simp only [reduceIte, show ¬ ((3 : Int) = 4) by decide, show ¬ ((3 : Int) = 0) by decide]
        exact Ev.const _
      · unfold larchref17_keys.f
        refine Ev.bind hR ?_
        simp only [reduceIte]
        refine Ev.bind rR ?_
        simp only [reduceIte, show ¬ (false = true) by decide]
        exact Ev.const _
end Go.Proofs.Ytmmjkebboonnkaa.P
