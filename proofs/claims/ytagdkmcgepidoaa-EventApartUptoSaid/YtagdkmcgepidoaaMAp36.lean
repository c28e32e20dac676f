/- P.eventApart_holds, part 37 of 41: the contracts of the Go functions that the law calls, its own walk, and its plain law, for every input that the statement speaks of. -/
import Derived.Test.YtagdkmcgepidoaaMAp8
import Derived.Test.YtagdkmcgepidoaaMAp13
import Derived.Test.YtagdkmcgepidoaaMAp2
import Derived.Test.YtagdkmcgepidoaaMAp3
import Derived.Test.YtagdkmcgepidoaaMAp4
import Derived.Test.YtagdkmcgepidoaaMAp14
import Derived.Test.YtagdkmcgepidoaaMAp25
import Derived.Test.YtagdkmcgepidoaaMAp6
import Derived.Test.YtagdkmcgepidoaaMAp30
import Derived.Test.YtagdkmcgepidoaaMAp5
import Derived.Test.YtagdkmcgepidoaaMAp27
import Derived.Test.YtagdkmcgepidoaaMAp29
import Derived.Test.YtagdkmcgepidoaaMAp20
import Derived.Test.YtagdkmcgepidoaaMAp12
import Derived.Test.YtagdkmcgepidoaaMAp31
import Derived.Test.YtagdkmcgepidoaaMAp33
set_option linter.unusedVariables false
set_option linter.unusedSimpArgs false
/- P1 -/
namespace Go.Proofs.Ytagdkmcgepidoaa.P
open Go.RowKit Go.Proofs.YtagdkmcgepidoaaW.PrintWords Go.Proofs.YtagdkmcgepidoaaW.PrintLast Go.Proofs.YtagdkmcgepidoaaW.PrintMore
def Ev {α : Type} (f : Nat → Option α) (v : α) : Prop := ∃ K, ∀ k, K ≤ k → f k = some v
namespace Ev
variable {α β : Type}
theorem const (v : α) : Ev (fun _ => some v) v := ⟨0, fun _ _ => rfl⟩
theorem succ {f : Nat → Option α} {v : α} (h : Ev (fun k => f (k + 1)) v) : Ev f v := by
  obtain ⟨K, h⟩ := h
  refine ⟨K + 1, fun k hk => ?_⟩
  obtain ⟨j, rfl⟩ : ∃ j, k = j + 1 := ⟨k - 1, by omega⟩
  exact h j (by omega)
theorem bind {f : Nat → Option α} {g : Nat → α → Option β} {x : α} {v : β} (h1 : Ev f x) (h2 : Ev (fun k => g k x) v) : Ev (fun k => (f k).bind (g k)) v := by
  obtain ⟨K1, h1⟩ := h1
  obtain ⟨K2, h2⟩ := h2
  refine ⟨max K1 K2, fun k hk => ?_⟩
  show (f k).bind (g k) = some v
  rw [h1 k (by omega)]
  exact h2 k (by omega)
theorem congr {f g : Nat → Option α} {v : α} (h : Ev g v) (e : ∀ k, f k = g k) : Ev f v := by
  obtain ⟨K, h⟩ := h
  exact ⟨K, fun k hk => (e k).trans (h k hk)⟩
theorem congr' {f g : Nat → Option α} {v w : α} (h : Ev g v) (ev : w = v) (e : ∀ k, f k = g k) : Ev f w := by
  subst ev
  exact h.congr e
end Ev
theorem wrap_succ {n : Nat} (h : n ≤ 100000000) : wrap64 ((n : Int) + 1) = ((n + 1 : Nat) : Int) := by unfold wrap64; omega
theorem samePairs_nil (ps : List S70) : Ev (fun k => larchref05_SamePairs.f k ps []) ((ps.length : Int) == 0) := by
  unfold larchref05_SamePairs.f
  by_cases h : ps.length = 0
  · have : ps = [] := List.length_eq_zero_iff.1 h
    subst this
    refine Ev.succ ((Ev.const true).congr fun k => ?_)
    simp [larchref05_SamePairs.l0]
  · refine (Ev.const false).congr' (by rw [beq_eq_false_iff_ne]; omega) fun k => ?_
    rw [if_neg (by simp only [List.length_nil]; omega)]
theorem sameRet_zero (n : S36) : Ev (fun k => larchref05_SameRet.f k n.f0 n.f1 n.f2 n.f3 false 0 0 []) (bareB n) := by
  unfold larchref05_SameRet.f bareB
  cases h0 : n.f0 with
  | true => exact (Ev.const false).congr' (by simp) fun k => by simp
  | false =>
    by_cases h1 : n.f1 = 0
    · by_cases h2 : n.f2 = 0
      · refine Ev.congr' (g := fun k => (larchref05_SamePairs.f k n.f3 []).bind fun t => some t) (v := ((n.f3.length : Int) == 0)) (Ev.bind (samePairs_nil n.f3) (Ev.const _)) (by simp [h1, h2]) fun k => ?_
        simp [h1, h2]
      · exact (Ev.const false).congr' (by simp [h2]) fun k => by simp [h1, h2]
    · exact (Ev.const false).congr' (by simp [h1]) fun k => by simp [h1]
theorem rdOf_set (x : List Bool) (a i : Int) (v : Bool) (ha : 0 ≤ a ∧ a < x.length) (hi : 0 ≤ i) : rdOf false (x.set a.toNat v) i = if i = a then v else rdOf false x i := by
  unfold rdOf
  rw [List.getD_eq_getElem?_getD, List.getElem?_set]
  by_cases e : i = a
  · subst e
    rw [if_pos rfl, if_pos (by omega), if_pos rfl]
    rfl
  · rw [if_neg (by omega), if_neg e, List.getD_eq_getElem?_getD]
theorem rd33_set (x : List S33) (a i : Int) (v : S33) (ha : 0 ≤ a ∧ a < x.length) (hi : 0 ≤ i) : J33 (x.set a.toNat v) i = if i = a then v else J33 x i := by
  unfold J33
  rw [List.getD_eq_getElem?_getD, List.getElem?_set]
  by_cases e : i = a
  · subst e
    rw [if_pos rfl, if_pos (by omega), if_pos rfl]
    rfl
  · rw [if_neg (by omega), if_neg e, List.getD_eq_getElem?_getD]
theorem rd_set (x : List Int) (a : Int) (i v : Int) (ha : 0 ≤ a ∧ a < x.length) (hi : 0 ≤ i) : rd (x.set a.toNat v) i = if i = a then v else rd x i := by
  unfold rd
  rw [List.getD_eq_getElem?_getD, List.getElem?_set]
  by_cases e : i = a
  · subst e
    rw [if_pos rfl, if_pos (by omega), if_pos rfl]
    rfl
  · rw [if_neg (by omega), if_neg e, List.getD_eq_getElem?_getD]
def KInv (op : List Bool) (ops : List S33) : Prop := ∀ i : Int, 0 ≤ i → i < 64 → rdOf false op i = true → 1 ≤ (J33 ops i).f0 ∧ (J33 ops i).f0 ≤ 9
theorem opSame_iff (a b : S33) : opSame a b = true ↔ a = b := by
  obtain ⟨a0, a1, a2, a3⟩ := a
  obtain ⟨b0, b1, b2, b3⟩ := b
  simp [opSame]
theorem notSame (a b : S33) : (!(a.f0 == b.f0) || (!(a.f1 == b.f1) || (!(a.f2 == b.f2) || (!(a.f3 == b.f3))))) = !opSame a b := by
  simp [opSame]
theorem chk_both (l0 : List S67) (hl : l0.length ≤ 100000) : ∀ d (j : Nat) (op : List Bool) (ops : List S33), j + d = l0.length → op.length = 64 → ops.length = 64 → KInv op ops → Ev (fun k => larchref05_Check.l0 k l0 op ops (j : Int)) (chkGo l0 d j op ops)
  | 0, j, op, ops, hd, _, _, _ => by
    refine Ev.succ ((Ev.const 0).congr fun k => ?_)
    simp only [larchref05_Check.l0]
    rw [if_neg (by omega)]
  | d + 1, j, op, ops, hd, ho, hs, hK => by
    obtain ⟨e, he⟩ : ∃ e, e = J67 l0 (j : Int) := ⟨_, rfl⟩
    have j0 : ((j : Int) < (l0.length : Int)) := by omega
    have j1 : (0 : Int) ≤ (j : Int) := by omega
    have bad : ∀ (f : Nat → Option Int), (∀ k, larchref05_Check.l0 (k + 1) l0 op ops (j : Int) = larchref05_Check.j1 k l0 op ops (j : Int) true e.f0 e.f1 e.f2.f0 e.f2.f1 e.f2.f2 e.f2.f3 e.f3.f0 e.f3.f1 e.f3.f2 e.f3.f3) → Ev (fun k => larchref05_Check.l0 k l0 op ops (j : Int)) 3 := by
      intro _ h
      refine Ev.succ (Ev.succ ((Ev.const 3).congr fun k => ?_))
      rw [h (k + 1)]
      simp only [larchref05_Check.j1, if_true]
    simp only [chkGo, ← he]
    by_cases c1 : e.f0 < 0
    · rw [if_pos (.inl c1)]
      refine bad (fun _ => none) fun k => ?_
      simp only [larchref05_Check.l0, ← he]
      rw [if_pos j0, if_pos j1, if_pos c1]
    by_cases c2 : e.f0 ≥ 64
    · rw [if_pos (.inr (.inl c2))]
      refine bad (fun _ => none) fun k => ?_
      simp only [larchref05_Check.l0, ← he]
      rw [if_pos j0, if_pos j1, if_neg c1, if_pos c2]
    by_cases k1 : e.f2.f0 < 1
    · have h3 : (if e.f0 < 0 ∨ e.f0 ≥ 64 ∨ e.f1 ≠ rdOf false op e.f0 then (3 : Int) else if evOk e ops = true then chkGo l0 d (j + 1) (op.set e.f0.toNat (!e.f1)) (ops.set e.f0.toNat e.f2) else 3) = 3 := by
        by_cases c3 : e.f1 ≠ rdOf false op e.f0
        · rw [if_pos (.inr (.inr c3))]
        · rw [if_neg (by simp only [c1, c2, c3, false_or, not_false_eq_true]), if_neg]
          unfold evOk
          cases hr : e.f1 with
          | true =>
            have := hK e.f0 (by omega) (by omega) (by rw [← Decidable.not_not.1 c3]; exact hr)
            simp only [if_true]
            intro hh
            rw [opSame_iff] at hh
            rw [← hh] at this
            omega
          | false =>
            simp
            omega
      rw [h3]
      refine bad (fun _ => none) fun k => ?_
      simp only [larchref05_Check.l0, ← he]
      rw [if_pos j0, if_pos j1, if_neg c1, if_neg c2, if_pos k1]
    by_cases k2 : e.f2.f0 > 9
    · have h3 : (if e.f0 < 0 ∨ e.f0 ≥ 64 ∨ e.f1 ≠ rdOf false op e.f0 then (3 : Int) else if evOk e ops = true then chkGo l0 d (j + 1) (op.set e.f0.toNat (!e.f1)) (ops.set e.f0.toNat e.f2) else 3) = 3 := by
        by_cases c3 : e.f1 ≠ rdOf false op e.f0
        · rw [if_pos (.inr (.inr c3))]
        · rw [if_neg (by simp only [c1, c2, c3, false_or, not_false_eq_true]), if_neg]
          unfold evOk
          cases hr : e.f1 with
          | true =>
            have := hK e.f0 (by omega) (by omega) (by rw [← Decidable.not_not.1 c3]; exact hr)
            simp only [if_true]
            intro hh
            rw [opSame_iff] at hh
            rw [← hh] at this
            omega
          | false =>
            simp
            omega
      rw [h3]
      refine bad (fun _ => none) fun k => ?_
      simp only [larchref05_Check.l0, ← he]
      rw [if_pos j0, if_pos j1, if_neg c1, if_neg c2, if_neg k1, if_pos k2]
    have step : ∀ k, larchref05_Check.l0 (k + 1) l0 op ops (j : Int) = larchref05_Check.j1 k l0 op ops (j : Int) (e.f1 != rdOf false op e.f0) e.f0 e.f1 e.f2.f0 e.f2.f1 e.f2.f2 e.f2.f3 e.f3.f0 e.f3.f1 e.f3.f2 e.f3.f3 := by
      intro k
      simp only [larchref05_Check.l0, ← he]
      rw [if_pos j0, if_pos j1, if_neg c1, if_neg c2, if_neg k1, if_neg k2, if_pos (by omega), if_pos (by omega)]
    by_cases c3 : e.f1 ≠ rdOf false op e.f0
    · rw [if_pos (.inr (.inr c3))]
      have hb : (e.f1 != rdOf false op e.f0) = true := by simpa using c3
      refine bad (fun _ => none) fun k => ?_
      rw [step, hb]
    have c3' := Decidable.not_not.1 c3
    have hb : (e.f1 != rdOf false op e.f0) = false := by simpa using c3'
    rw [if_neg (by simp only [c1, c2, c3, false_or, not_false_eq_true])]
    rw [hb] at step
    have hKn : evOk e ops = true → KInv (op.set e.f0.toNat (!e.f1)) (ops.set e.f0.toNat e.f2) := by
      intro hok i i0 i1
      rw [rdOf_set _ _ _ _ (by omega) i0, rd33_set _ _ _ _ (by omega) i0]
      by_cases hi : i = e.f0
      · rw [if_pos hi, if_pos hi]
        intro _
        omega
      · rw [if_neg hi, if_neg hi]
        exact hK i i0 i1
    cases hr : e.f1 with
    | true =>
      by_cases hs2 : opSame e.f2 (J33 ops e.f0) = true
      · have hok : evOk e ops = true := by unfold evOk; rw [if_pos hr]; exact hs2
        rw [if_pos hok]
        have ih := chk_both l0 hl d (j + 1) (op.set e.f0.toNat (!e.f1)) (ops.set e.f0.toNat e.f2) (by omega) (by simpa using ho) (by simpa using hs) (hKn hok)
        rw [hr] at ih
        refine Ev.succ (Ev.succ (ih.congr fun k => ?_))
        rw [step (k + 1)]
        simp only [larchref05_Check.j1, hr, notSame, hs2]
        rw [if_neg (by simp), if_pos trivial, if_pos (by omega), if_pos (by omega), if_neg (by simp), if_pos (by omega), wrap_succ (by omega)]
      · have hok : ¬ (evOk e ops = true) := by unfold evOk; rw [if_pos hr]; exact hs2
        rw [if_neg hok]
        have hs3 : opSame e.f2 (J33 ops e.f0) = false := by simpa using hs2
        refine Ev.succ (Ev.succ ((Ev.const 3).congr fun k => ?_))
        rw [step (k + 1)]
        simp only [larchref05_Check.j1, hr, notSame, hs3]
        rw [if_neg (by simp), if_pos trivial, if_pos (by omega), if_pos (by omega), if_pos (by simp)]
    | false =>
      have hev : evOk e ops = bareB e.f3 := by
        unfold evOk
        rw [if_neg (by simp [hr]), decide_eq_true (by omega), decide_eq_true (by omega)]
        simp
      rw [hev]
      have hret := sameRet_zero e.f3
      have main : Ev (fun k => (larchref05_SameRet.f k e.f3.f0 e.f3.f1 e.f3.f2 e.f3.f3 false 0 0 []).bind fun t157 => if t157 = true then larchref05_Check.l0 k l0 (op.set e.f0.toNat (!e.f1)) (ops.set e.f0.toNat e.f2) (((j + 1 : Nat) : Int)) else some 3) (if bareB e.f3 = true then chkGo l0 d (j + 1) (op.set e.f0.toNat (!e.f1)) (ops.set e.f0.toNat e.f2) else 3) := by
        refine Ev.bind hret ?_
        by_cases hbb : bareB e.f3 = true
        · simp only [if_pos hbb]
          exact chk_both l0 hl d (j + 1) (op.set e.f0.toNat (!e.f1)) (ops.set e.f0.toNat e.f2) (by omega) (by simpa using ho) (by simpa using hs) (hKn (by rw [hev]; exact hbb))
        · simp only [if_neg hbb]
          exact Ev.const 3
      rw [hr] at main
      refine Ev.succ (Ev.succ (main.congr fun k => ?_))
      rw [step (k + 1)]
      simp only [larchref05_Check.j1, hr]
      rw [if_neg (by simp), if_neg (by simp)]
      congr 1
      funext t
      cases t with
      | false => rfl
      | true =>
        simp only [reduceIte]
        rw [if_pos (by omega), if_pos (by omega), if_pos (by omega), wrap_succ (by omega)]
theorem check_both (l0 : List S67) : ∃ c : Int, event_Check.f l0 = some c ∧ Ev (fun k => larchref05_Check.f k l0) c ∧ (c = 0 → l0.length ≤ 100000 ∧ chkGo l0 l0.length 0 (List.replicate 64 false) (List.replicate 64 z33) = 0) := by
  by_cases h : l0.length > 100000
  · refine ⟨2, ?_, (Ev.const 2).congr fun k => ?_, fun h => by omega⟩
    · unfold event_Check.f; rw [if_pos h]
    · unfold larchref05_Check.f; rw [if_pos (by omega)]
  · refine ⟨chkGo l0 l0.length 0 (List.replicate 64 false) (List.replicate 64 z33), ?_, ?_, fun h0 => ⟨by omega, h0⟩⟩
    · unfold event_Check.f; rw [if_neg h]
    · refine (chk_both l0 (by omega) l0.length 0 (List.replicate 64 false) (List.replicate 64 z33) (by omega) (by simp) (by simp) (fun i _ _ hi => ?_)).congr fun k => ?_
      · unfold rdOf at hi
        rw [List.getD_eq_getElem?_getD, List.getElem?_replicate] at hi
        split at hi <;> simp at hi
      · unfold larchref05_Check.f
        rw [if_neg (by omega), if_pos (by decide), if_pos (by decide)]
        rfl
def conv (x : S38) : S76 := ⟨x.f0, x.f1, x.f2, x.f3, x.f4⟩
theorem rd76_map (out : List S38) (i : Int) (hi : 0 ≤ i ∧ i < out.length) : J76 (out.map conv) i = conv (J38 out i) := by
  unfold J76 J38
  rw [List.getD_eq_getElem?_getD, List.getD_eq_getElem?_getD, List.getElem?_map, List.getElem?_eq_getElem (by omega)]
  rfl
theorem rd76_set (x : List S76) (i : Int) (v : S76) (hi : 0 ≤ i ∧ i < x.length) : J76 (x.set i.toNat v) i = v := by
  unfold J76
  rw [List.getD_eq_getElem?_getD, List.getElem?_set_self (by omega)]
  rfl
structure COk (l0 : List S67) (out : List S38) : Prop where
  len : out.length ≤ l0.length
  tw : ∀ x ∈ out, x.f4 = -1 ∨ 0 ≤ x.f4
theorem calls_both (l0 : List S67) (hl : l0.length ≤ 100000) (hp : ∀ e ∈ l0, e.f3.f3.length ≤ 1048576) : ∀ d (j : Nat) (op : List Bool) (ops : List S33) (last : List Int) (out : List S38), j + d = l0.length → op.length = 64 → ops.length = 64 → last.length = 64 → chkGo l0 d j op ops = 0 →
    (∀ i : Int, 0 ≤ i → i < 64 → rdOf false op i = true → 0 ≤ rd last i ∧ rd last i < out.length) → out.length ≤ j → (∀ x ∈ out, x.f4 = -1 ∨ 0 ≤ x.f4) →
    ∃ r, callsGo l0 d j last out = some r ∧ Ev (fun k => larchref05_calls.l0 k l0 (out.map conv) last (j : Int)) (r.map conv) ∧ COk l0 r
  | 0, j, op, ops, last, out, hd, _, _, _, _, _, ho, ht => by
    refine ⟨out, rfl, Ev.succ ((Ev.const _).congr fun k => ?_), by omega, ht⟩
    simp only [larchref05_calls.l0]
    rw [if_neg (by omega)]
  | d + 1, j, op, ops, last, out, hd, h1, h2, h3, hc, hi, ho, ht => by
    obtain ⟨e, he⟩ : ∃ e, e = J67 l0 (j : Int) := ⟨_, rfl⟩
    have hin : e ∈ l0 := by
      rw [he]
      unfold J67
      rw [Int.toNat_natCast, List.getD_eq_getElem?_getD, List.getElem?_eq_getElem (by omega)]
      exact List.getElem_mem _
    have hpe := hp e hin
    simp only [chkGo, ← he] at hc
    split at hc
    · omega
    rename_i hc1
    split at hc
    rotate_left
    · omega
    have f0 : 0 ≤ e.f0 ∧ e.f0 < 64 := by omega
    have hop : e.f1 = rdOf false op e.f0 := by
      refine Decidable.byContradiction fun hh => hc1 (.inr (.inr hh))
    simp only [callsGo, ← he]
    rw [if_pos f0]
    by_cases hr : e.f1 = true
    · obtain ⟨l0', l1'⟩ := hi e.f0 f0.1 f0.2 (by rw [← hop]; exact hr)
      rw [if_pos hr, if_pos ⟨⟨l0', l1'⟩, by omega⟩]
      obtain ⟨q, hq⟩ : ∃ q, q = rd last e.f0 := ⟨_, rfl⟩
      rw [← hq] at l0' l1' ⊢
      obtain ⟨r, ha, hb, hk⟩ := calls_both l0 hl hp d (j + 1) (op.set e.f0.toNat (!e.f1)) (ops.set e.f0.toNat e.f2) last (out.set q.toNat ⟨(J38 out q).f0, (J38 out q).f1, e.f3, (J38 out q).f3, (j : Int)⟩) (by omega) (by simpa using h1) (by simpa using h2) h3 hc (fun i i0 i1 hh => by
        rw [rdOf_set _ _ _ _ (by omega) i0] at hh
        by_cases e1 : i = e.f0
        · rw [if_pos e1, hr] at hh; simp at hh
        · rw [if_neg e1] at hh
          rw [List.length_set]
          exact hi i i0 i1 hh) (by rw [List.length_set]; omega) (fun x hx => by
        rcases List.mem_or_eq_of_mem_set hx with h | h
        · exact ht x h
        · rw [h]; right; simp)
      refine ⟨r, ha, Ev.succ (hb.congr fun k => ?_), hk⟩
      simp only [larchref05_calls.l0, ← he]
      rw [if_pos (by omega), if_pos (by omega), if_pos hr, if_pos f0.1, if_pos (by omega), ← hq, if_pos l0', if_pos (by simpa using l1')]
      simp only [Option.bind_some]
      rw [rd76_set _ _ _ (by simp; omega), rd76_map out q ⟨l0', l1'⟩]
      unfold larchref05_CopyRet.f
      simp only [Option.bind_some, List.length_nil, List.nil_append]
      rw [if_pos (by omega)]
      simp only [Option.bind_some]
      rw [List.set_set, List.map_set, wrap_succ (by omega)]
      rfl
    · have hr' : e.f1 = false := by simpa using hr
      rw [if_neg hr, if_pos (by omega)]
      obtain ⟨r, ha, hb, hk⟩ := calls_both l0 hl hp d (j + 1) (op.set e.f0.toNat (!e.f1)) (ops.set e.f0.toNat e.f2) (last.set e.f0.toNat (out.length : Int)) (out ++ [⟨e.f0, e.f2, z36, (j : Int), -1⟩]) (by omega) (by simpa using h1) (by simpa using h2) (by simpa using h3) hc (fun i i0 i1 hh => by
        rw [rdOf_set _ _ _ _ (by omega) i0] at hh
        rw [rd_set _ _ _ _ (by omega) i0, List.length_append, List.length_singleton]
        by_cases e1 : i = e.f0
        · rw [if_pos e1]; omega
        · rw [if_neg e1] at hh
          rw [if_neg e1]
          have := hi i i0 i1 hh
          omega) (by rw [List.length_append, List.length_singleton]; omega) (fun x hx => by
        rcases List.mem_append.1 hx with h | h
        · exact ht x h
        · simp at h
          rw [h]; left; rfl)
      refine ⟨r, ha, Ev.succ (hb.congr fun k => ?_), hk⟩
      simp only [larchref05_calls.l0, ← he]
      rw [if_pos (by omega), if_pos (by omega), if_neg hr, if_pos f0.1, if_pos (by omega), if_pos (by simp; omega), List.map_append, List.length_map, wrap_succ (by omega)]
      rfl
theorem Calls_both (l0 : List S67) (hp : ∀ e ∈ l0, e.f3.f3.length ≤ 1048576) : ∃ (r : List S38) (c : Int), event_Calls.f l0 = some (r, c) ∧ Ev (fun k => larchref05_Calls.f k l0) (r.map conv, c) ∧ event_Check.f l0 = some c ∧ Ev (fun k => larchref05_Check.f k l0) c ∧ (c = 0 → l0.length ≤ 100000 ∧ COk l0 r) := by
  obtain ⟨c, hc, hR, h0⟩ := check_both l0
  by_cases e0 : c = 0
  · subst e0
    obtain ⟨hl, hchk⟩ := h0 rfl
    obtain ⟨r, ha, hb, hk⟩ := calls_both l0 hl hp l0.length 0 (List.replicate 64 false) (List.replicate 64 z33) (List.replicate 64 0) [] (by omega) (by simp) (by simp) (by simp) hchk (fun i _ _ hi => by
      unfold rdOf at hi
      rw [List.getD_eq_getElem?_getD, List.getElem?_replicate] at hi
      split at hi <;> simp at hi) (by simp) (by simp)
    refine ⟨r, 0, ?_, ?_, hc, hR, fun _ => ⟨hl, hk⟩⟩
    · unfold event_Calls.f event_calls.f
      rw [hc]
      simp only [Option.bind_some, if_true]
      rw [ha]
      rfl
    · unfold larchref05_Calls.f
      refine Ev.bind hR ?_
      simp only [if_true]
      refine Ev.bind (x := r.map conv) (hb.congr fun k => ?_) (Ev.const _)
      unfold larchref05_calls.f
      rw [if_pos (by decide)]
      rfl
  · refine ⟨[], c, ?_, ?_, hc, hR, fun h => absurd h e0⟩
    · unfold event_Calls.f
      rw [hc]
      simp only [Option.bind_some, if_neg e0]
    · unfold larchref05_Calls.f
      refine Ev.bind hR ?_
      simp only [if_neg e0]
      exact Ev.const _
end Go.Proofs.Ytagdkmcgepidoaa.P
/- P3 -/
namespace Go.Proofs.Ytagdkmcgepidoaa.P
open Go.RowKit Go.Proofs.YtagdkmcgepidoaaW.PrintWords Go.Proofs.YtagdkmcgepidoaaW.PrintLast Go.Proofs.YtagdkmcgepidoaaW.PrintMore
theorem known_ok3 : larchlaw05_known.f = some true := by kernel_rfl
theorem rd67_mem (l : List S67) (j : Nat) (h : j < l.length) : J67 l (j : Int) ∈ l := by
  unfold J67
  rw [Int.toNat_natCast, List.getD_eq_getElem?_getD, List.getElem?_eq_getElem h]
  exact List.getElem_mem _
theorem drop67 (l : List S67) (j : Nat) (h : j < l.length) : l.drop j = J67 l (j : Int) :: l.drop (j + 1) := by
  rw [List.drop_eq_getElem_cons h]
  unfold J67
  rw [Int.toNat_natCast, List.getD_eq_getElem?_getD, List.getElem?_eq_getElem h]
  rfl
theorem copy_go (x : List S67) (hx : x.length ≤ 100000) (hp : ∀ e ∈ x, e.f3.f3.length ≤ 1048576) : ∀ d (j : Nat) (out : List S67), j + d = x.length → out.length ≤ j → Ev (fun k => larchref05_CopyEvents.l0 k x out (j : Int)) (out ++ x.drop j)
  | 0, j, out, hd, _ => by
    refine Ev.succ ((Ev.const out).congr' (by rw [List.drop_eq_nil_of_le (by omega), List.append_nil]) fun k => ?_)
    simp only [larchref05_CopyEvents.l0]
    rw [if_neg (by omega)]
  | d + 1, j, out, hd, ho => by
    have hpe := hp _ (rd67_mem x j (by omega))
    refine Ev.succ ((copy_go x hx hp d (j + 1) (out ++ [J67 x (j : Int)]) (by omega) (by simp; omega)).congr' (by rw [drop67 x j (by omega)]; simp) fun k => ?_)
    simp only [larchref05_CopyEvents.l0]
    rw [if_pos (by omega), if_pos (by omega)]
    unfold larchref05_CopyRet.f
    simp only [Option.bind_some, List.length_nil, List.nil_append]
    rw [if_pos (by omega)]
    simp only [Option.bind_some]
    rw [if_pos (by omega), wrap_succ (by omega)]
theorem copy_ev (x : List S67) (hx : x.length ≤ 100000) (hp : ∀ e ∈ x, e.f3.f3.length ≤ 1048576) : Ev (fun k => larchref05_CopyEvents.f k x) x := by
  have := copy_go x hx hp x.length 0 [] (by omega) (by simp)
  simpa [larchref05_CopyEvents.f] using this
theorem of_go (l0 : List S67) (t : Int) (hl : l0.length ≤ 100000) (hp : ∀ e ∈ l0, e.f3.f3.length ≤ 1048576) : ∀ d (j : Nat) (out : List S67), j + d = l0.length → out.length ≤ j → (∀ e ∈ out, e.f3.f3.length ≤ 1048576) → Ev (fun k => larchref05_Of.l0 k l0 t out (j : Int)) (keptL (ofP l0 t) l0 d j out, 0)
  | 0, j, out, hd, ho, hq => by
    refine Ev.succ (Ev.congr (g := fun k => (larchref05_CopyEvents.f k out).bind fun t264 => some (t264, (0 : Int))) (Ev.bind (copy_ev out (by omega) hq) (Ev.const _)) fun k => ?_)
    simp only [larchref05_Of.l0]
    rw [if_neg (by omega)]
  | d + 1, j, out, hd, ho, hq => by
    have hpe := hp _ (rd67_mem l0 j (by omega))
    unfold keptL
    by_cases h : (J67 l0 (j : Int)).f0 = t
    · rw [if_pos (by unfold ofP; simpa using h)]
      refine Ev.succ ((of_go l0 t hl hp d (j + 1) (out ++ [J67 l0 (j : Int)]) (by omega) (by simp; omega) (fun e he => by
        rcases List.mem_append.1 he with h1 | h1
        · exact hq e h1
        · simp at h1; rw [h1]; exact hpe)).congr fun k => ?_)
      simp only [larchref05_Of.l0]
      rw [if_pos (by omega), if_pos (by omega), if_pos h, if_pos (by omega), wrap_succ (by omega)]
    · rw [if_neg (by unfold ofP; simpa using h)]
      refine Ev.succ ((of_go l0 t hl hp d (j + 1) out (by omega) (by omega) hq).congr fun k => ?_)
      simp only [larchref05_Of.l0]
      rw [if_pos (by omega), if_pos (by omega), if_neg h, wrap_succ (by omega)]
theorem of_both (l0 : List S67) (hp : ∀ e ∈ l0, e.f3.f3.length ≤ 1048576) (t : Int) : ∃ (v : List S67) (c : Int), event_Of.f l0 t = some (v, c) ∧ Ev (fun k => larchref05_Of.f k l0 t) (v, c) ∧ (c = 0 → v = keptL (ofP l0 t) l0 l0.length 0 []) ∧ (c ≠ 0 → v = []) := by
  obtain ⟨c, hE, hR, h0⟩ := check_both l0
  by_cases e0 : c = 0
  · subst e0
    obtain ⟨hl, -⟩ := h0 rfl
    refine ⟨keptL (ofP l0 t) l0 l0.length 0 [], 0, ?_, ?_, fun _ => rfl, fun h => absurd rfl h⟩
    · unfold event_Of.f
      rw [hE]
      simp only [Option.bind_some, if_true]
      rw [if_pos ⟨hl, hp⟩]
    · unfold larchref05_Of.f
      refine Ev.bind hR ?_
      simp only [if_true]
      exact of_go l0 t hl hp l0.length 0 [] (by omega) (by simp) (by simp)
  · refine ⟨[], c, ?_, ?_, fun h => absurd h e0, fun _ => rfl⟩
    · unfold event_Of.f
      rw [hE]
      simp only [Option.bind_some, if_neg e0]
    · unfold larchref05_Of.f
      refine Ev.bind hR ?_
      simp only [if_neg e0]
      exact Ev.const _
theorem samePairs_go (a b : List S70) (hl : a.length = b.length) (ha : a.length ≤ 1048576) : ∀ d (j : Nat), j + d = a.length → Ev (fun k => larchref05_SamePairs.l0 k a b (j : Int)) (pairsGo a b d j)
  | 0, j, hd => by
    refine Ev.succ ((Ev.const true).congr fun k => ?_)
    simp only [larchref05_SamePairs.l0]
    rw [if_neg (by omega)]
  | d + 1, j, hd => by
    have ih := samePairs_go a b hl ha d (j + 1) (by omega)
    unfold pairsGo
    by_cases h : ((J70 a (j : Int)).f0 == (J70 b (j : Int)).f0 && (J70 a (j : Int)).f1 == (J70 b (j : Int)).f1) = true
    · rw [h, Bool.true_and]
      refine Ev.succ (ih.congr fun k => ?_)
      simp only [larchref05_SamePairs.l0]
      simp only [Bool.and_eq_true, beq_iff_eq] at h
      rw [if_pos (by omega), if_pos (by omega), if_pos (by omega), if_neg (by simp [h.1, h.2]), wrap_succ (by omega)]
    · have h' : ((J70 a (j : Int)).f0 == (J70 b (j : Int)).f0 && (J70 a (j : Int)).f1 == (J70 b (j : Int)).f1) = false := by simpa using h
      rw [h', Bool.false_and]
      refine Ev.succ ((Ev.const false).congr fun k => ?_)
      simp only [larchref05_SamePairs.l0]
      rw [if_pos (by omega), if_pos (by omega), if_pos (by omega), if_pos]
      rw [← Bool.not_and, h']
      rfl
theorem sameRet_ev (a b : S36) (ha : a.f3.length ≤ 1048576) : Ev (fun k => larchref05_SameRet.f k a.f0 a.f1 a.f2 a.f3 b.f0 b.f1 b.f2 b.f3) (sameRetB a b) := by
  unfold larchref05_SameRet.f sameRetB
  by_cases h0 : a.f0 = b.f0
  · by_cases h1 : a.f1 = b.f1
    · by_cases h2 : a.f2 = b.f2
      · have main : Ev (fun k => larchref05_SamePairs.f k a.f3 b.f3) (decide (a.f3.length = b.f3.length) && pairsGo a.f3 b.f3 a.f3.length 0) := by
          unfold larchref05_SamePairs.f
          by_cases h3 : a.f3.length = b.f3.length
          · rw [decide_eq_true h3, Bool.true_and]
            refine (samePairs_go a.f3 b.f3 h3 ha a.f3.length 0 (by omega)).congr fun k => ?_
            rw [if_pos (by omega)]
            rfl
          · rw [decide_eq_false h3, Bool.false_and]
            refine (Ev.const false).congr fun k => ?_
            rw [if_neg (by omega)]
        refine Ev.congr' (g := fun k => (larchref05_SamePairs.f k a.f3 b.f3).bind fun t => some t) (Ev.bind main (Ev.const _)) (by simp [h0, h1, h2]) fun k => ?_
        simp [h0, h1, h2]
      · exact (Ev.const false).congr' (by simp [h2]) fun k => by simp [h0, h1, h2]
    · exact (Ev.const false).congr' (by simp [h1]) fun k => by simp [h0, h1]
  · exact (Ev.const false).congr' (by simp [h0]) fun k => by simp [h0]
theorem sameEvent_ev (a b : S67) (ha : a.f3.f3.length ≤ 1048576) : Ev (fun k => larchref05_sameEvent.f k a.f0 a.f1 a.f2.f0 a.f2.f1 a.f2.f2 a.f2.f3 a.f3.f0 a.f3.f1 a.f3.f2 a.f3.f3 b.f0 b.f1 b.f2.f0 b.f2.f1 b.f2.f2 b.f2.f3 b.f3.f0 b.f3.f1 b.f3.f2 b.f3.f3) (a.f0 == b.f0 && evSame a b) := by
  unfold larchref05_sameEvent.f evSame
  by_cases h0 : a.f0 = b.f0
  · by_cases h1 : a.f1 = b.f1
    · by_cases h2 : opSame a.f2 b.f2 = true
      · refine Ev.congr' (g := fun k => (larchref05_SameRet.f k a.f3.f0 a.f3.f1 a.f3.f2 a.f3.f3 b.f3.f0 b.f3.f1 b.f3.f2 b.f3.f3).bind fun t => some t) (Ev.bind (sameRet_ev a.f3 b.f3 ha) (Ev.const _)) (by simp [h0, h1, h2]) fun k => ?_
        unfold opSame at h2
        rw [if_pos h0, if_pos (by simp [h1]), if_pos h2]
      · refine (Ev.const false).congr' (by simp [h2]) fun k => ?_
        unfold opSame at h2
        rw [if_pos h0, if_pos (by simp [h1]), if_neg h2]
    · exact (Ev.const false).congr' (by simp [h1]) fun k => by rw [if_pos h0, if_neg (by simpa using h1)]
  · exact (Ev.const false).congr' (by simp [h0]) fun k => by rw [if_neg h0]
def seGo (xs ys : List S67) : Nat → Nat → Bool
  | 0, _ => true
  | d + 1, j => ((J67 xs (j : Int)).f0 == (J67 ys (j : Int)).f0 && evSame (J67 xs (j : Int)) (J67 ys (j : Int))) && seGo xs ys d (j + 1)
def seB (xs ys : List S67) : Bool := decide (xs.length = ys.length) && seGo xs ys xs.length 0
theorem se_go (xs ys : List S67) (hl : xs.length = ys.length) (hx : xs.length ≤ 100000) (hp : ∀ e ∈ xs, e.f3.f3.length ≤ 1048576) : ∀ d (j : Nat), j + d = xs.length → Ev (fun k => larchref05_SameEvents.l0 k xs ys (j : Int)) (seGo xs ys d j)
  | 0, j, hd => by
    refine Ev.succ ((Ev.const true).congr fun k => ?_)
    simp only [larchref05_SameEvents.l0]
    rw [if_neg (by omega)]
  | d + 1, j, hd => by
    have ih := se_go xs ys hl hx hp d (j + 1) (by omega)
    have hs := sameEvent_ev (J67 xs (j : Int)) (J67 ys (j : Int)) (hp _ (rd67_mem xs j (by omega)))
    unfold seGo
    obtain ⟨b, hb⟩ : ∃ b, ((J67 xs (j : Int)).f0 == (J67 ys (j : Int)).f0 && evSame (J67 xs (j : Int)) (J67 ys (j : Int))) = b := ⟨_, rfl⟩
    rw [hb] at hs ⊢
    refine Ev.succ (Ev.congr (g := fun k => (larchref05_sameEvent.f k (J67 xs (j : Int)).f0 (J67 xs (j : Int)).f1 (J67 xs (j : Int)).f2.f0 (J67 xs (j : Int)).f2.f1 (J67 xs (j : Int)).f2.f2 (J67 xs (j : Int)).f2.f3 (J67 xs (j : Int)).f3.f0 (J67 xs (j : Int)).f3.f1 (J67 xs (j : Int)).f3.f2 (J67 xs (j : Int)).f3.f3 (J67 ys (j : Int)).f0 (J67 ys (j : Int)).f1 (J67 ys (j : Int)).f2.f0 (J67 ys (j : Int)).f2.f1 (J67 ys (j : Int)).f2.f2 (J67 ys (j : Int)).f2.f3 (J67 ys (j : Int)).f3.f0 (J67 ys (j : Int)).f3.f1 (J67 ys (j : Int)).f3.f2 (J67 ys (j : Int)).f3.f3).bind fun t272 => if t272 = true then larchref05_SameEvents.l0 k xs ys (((j + 1 : Nat) : Int)) else some false) ?_ fun k => ?_)
    · refine Ev.bind hs ?_
      cases b with
      | true => simpa using ih
      | false => simpa using Ev.const false
    · simp only [larchref05_SameEvents.l0]
      rw [if_pos (by omega), if_pos (by omega), if_pos (by omega), wrap_succ (by omega)]
theorem se_ev (xs ys : List S67) (hx : xs.length ≤ 100000) (hp : ∀ e ∈ xs, e.f3.f3.length ≤ 1048576) : Ev (fun k => larchref05_SameEvents.f k xs ys) (seB xs ys) := by
  unfold larchref05_SameEvents.f seB
  by_cases h : xs.length = ys.length
  · rw [decide_eq_true h, Bool.true_and]
    refine (se_go xs ys h hx hp xs.length 0 (by omega)).congr fun k => ?_
    rw [if_pos (by omega)]
    rfl
  · rw [decide_eq_false h, Bool.false_and]
    refine (Ev.const false).congr fun k => ?_
    rw [if_neg (by omega)]
theorem keptL_len (p : Nat → Bool) (l0 : List S67) : ∀ d (j : Nat) (out : List S67), (keptL p l0 d j out).length ≤ out.length + d
  | 0, _, _ => Nat.le_refl _
  | d + 1, j, out => by
    unfold keptL
    split
    · have := keptL_len p l0 d (j + 1) (out ++ [J67 l0 (j : Int)])
      simp at this
      omega
    · have := keptL_len p l0 d (j + 1) out
      omega
end Go.Proofs.Ytagdkmcgepidoaa.P
/- P4 -/
namespace Go.Proofs.Ytagdkmcgepidoaa.P
open Go.RowKit Go.Proofs.YtagdkmcgepidoaaW.PrintWords Go.Proofs.YtagdkmcgepidoaaW.PrintLast Go.Proofs.YtagdkmcgepidoaaW.PrintMore
theorem chk_step {l0 : List S67} {d j : Nat} {op : List Bool} {ops : List S33} (h : chkGo l0 (d + 1) j op ops = 0) :
    (0 ≤ (J67 l0 (j : Int)).f0 ∧ (J67 l0 (j : Int)).f0 < 64) ∧ (J67 l0 (j : Int)).f1 = rdOf false op (J67 l0 (j : Int)).f0 ∧ evOk (J67 l0 (j : Int)) ops = true ∧ chkGo l0 d (j + 1) (op.set (J67 l0 (j : Int)).f0.toNat (!(J67 l0 (j : Int)).f1)) (ops.set (J67 l0 (j : Int)).f0.toNat (J67 l0 (j : Int)).f2) = 0 := by
  unfold chkGo at h
  split at h
  · omega
  rename_i h1
  split at h
  rotate_left
  · omega
  rename_i h2
  exact ⟨by omega, Decidable.byContradiction fun hh => h1 (.inr (.inr hh)), h2, h⟩
theorem rd38_set (x : List S38) (a i : Int) (v : S38) (ha : 0 ≤ a ∧ a < x.length) (hi : 0 ≤ i) : J38 (x.set a.toNat v) i = if i = a then v else J38 x i := by
  unfold J38
  rw [List.getD_eq_getElem?_getD, List.getElem?_set]
  by_cases e : i = a
  · subst e
    rw [if_pos rfl, if_pos (by omega), if_pos rfl]
    rfl
  · rw [if_neg (by omega), if_neg e, List.getD_eq_getElem?_getD]
theorem rd38_app (x : List S38) (v : S38) (i : Int) (hi : 0 ≤ i ∧ i ≤ x.length) : J38 (x ++ [v]) i = if i = x.length then v else J38 x i := by
  unfold J38
  rw [List.getD_eq_getElem?_getD]
  by_cases e : i = x.length
  · rw [if_pos e, List.getElem?_append_right (by omega), show i.toNat - x.length = 0 by omega]
    rfl
  · rw [if_neg e, List.getElem?_append_left (by omega), List.getD_eq_getElem?_getD]
structure Own (out : List S38) (j : Nat) (own : Nat → Int) : Prop where
  fr : ∀ q : Int, 0 ≤ q → q < out.length → (0 ≤ (J38 out q).f3 ∧ (J38 out q).f3 < j) ∧ own (J38 out q).f3.toNat = q
  tw : ∀ q : Int, 0 ≤ q → q < out.length → (J38 out q).f4 = -1 ∨ ((0 ≤ (J38 out q).f4 ∧ (J38 out q).f4 < j) ∧ own (J38 out q).f4.toNat = q)
  al : ∀ i : Nat, i < j → (0 ≤ own i ∧ own i < out.length) ∧ ((J38 out (own i)).f3 = i ∨ (J38 out (own i)).f4 = i)
  lt : ∀ q : Int, 0 ≤ q → q < out.length → (J38 out q).f4 = -1 ∨ (J38 out q).f3 < (J38 out q).f4
def resp (l0 : List S67) (p : Nat → Bool) : Nat → Nat → (Int → Bool) → Prop
  | 0, _, _ => True
  | d + 1, j, lp => if (J67 l0 (j : Int)).f1 = true then p j = lp (J67 l0 (j : Int)).f0 ∧ resp l0 p d (j + 1) lp else resp l0 p d (j + 1) (fun t => if t = (J67 l0 (j : Int)).f0 then p j else lp t)
def ow (l0 : List S67) (own : Nat → Int) : Nat → Nat → List Int → Nat → Prop
  | 0, _, _, _ => True
  | d + 1, j, last, m => if (J67 l0 (j : Int)).f1 = true then own j = rd last (J67 l0 (j : Int)).f0 ∧ ow l0 own d (j + 1) last m else own j = (m : Int) ∧ ow l0 own d (j + 1) (last.set (J67 l0 (j : Int)).f0.toNat (m : Int)) (m + 1)
theorem own_go (l0 : List S67) : ∀ d (j : Nat) (op : List Bool) (ops : List S33) (last : List Int) (out r : List S38) (own : Nat → Int), op.length = 64 → last.length = 64 → chkGo l0 d j op ops = 0 →
    (∀ t : Int, 0 ≤ t → t < 64 → rdOf false op t = true → (0 ≤ rd last t ∧ rd last t < out.length) ∧ (J38 out (rd last t)).f0 = t ∧ (J38 out (rd last t)).f4 = -1) → Own out j own → callsGo l0 d j last out = some r →
    ∃ own' : Nat → Int, (∀ i, i < j → own' i = own i) ∧ Own r (j + d) own' ∧ (∀ g : Int → Bool, ∀ lp : Int → Bool, (∀ t : Int, 0 ≤ t → t < 64 → lp t = g (rd last t)) → resp l0 (fun i => g (own' i)) d j lp) ∧ ow l0 own' d j last out.length
  | 0, j, op, ops, last, out, r, own, _, _, _, _, hO, hr => by
    simp only [callsGo, Option.some.injEq] at hr
    subst hr
    exact ⟨own, fun _ _ => rfl, hO, fun _ _ _ => trivial, trivial⟩
  | d + 1, j, op, ops, last, out, r, own, h1, h2, hc, hop, hO, hr => by
    obtain ⟨hf, hf1, -, hc'⟩ := chk_step hc
    obtain ⟨e, he⟩ : ∃ e, e = J67 l0 (j : Int) := ⟨_, rfl⟩
    simp only [callsGo, ← he] at hr
    rw [← he] at hf hf1 hc'
    rw [if_pos hf] at hr
    by_cases hb : e.f1 = true
    · obtain ⟨hq, hq0, hq4⟩ := hop e.f0 hf.1 hf.2 (by rw [← hf1]; exact hb)
      obtain ⟨q, hqe⟩ : ∃ q, q = rd last e.f0 := ⟨_, rfl⟩
      rw [if_pos hb] at hr
      rw [← hqe] at hq hq0 hq4 hr
      split at hr
      rotate_left
      · cases hr
      rename_i hg
      obtain ⟨v, hv⟩ : ∃ v : S38, v = ⟨(J38 out q).f0, (J38 out q).f1, e.f3, (J38 out q).f3, (j : Int)⟩ := ⟨_, rfl⟩
      rw [← hv] at hr
      have hv0 : v.f0 = e.f0 := by rw [hv]; exact hq0
      have hv3 : v.f3 = (J38 out q).f3 := by rw [hv]
      have hv4 : v.f4 = (j : Int) := by rw [hv]
      clear hv hg
      have rs : ∀ i : Int, 0 ≤ i → J38 (out.set q.toNat v) i = if i = q then v else J38 out i := fun i hi => rd38_set out q i v hq hi
      have hO' : Own (out.set q.toNat v) (j + 1) (fun i => if i = j then q else own i) := by
        refine ⟨fun i i0 i1 => ?_, fun i i0 i1 => ?_, fun i hi => ?_, fun i i0 i1 => ?_⟩
        rotate_left 3
        · rw [List.length_set] at i1
          rw [rs i i0]
          by_cases e1 : i = q
          · subst e1
            rw [if_pos rfl, hv3, hv4]
            exact .inr (hO.fr i i0 i1).1.2
          · rw [if_neg e1]
            exact hO.lt i i0 i1
        · rw [List.length_set] at i1
          rw [rs i i0]
          obtain ⟨a, b⟩ := hO.fr i i0 i1
          by_cases e1 : i = q
          · subst e1
            rw [if_pos rfl, hv3]
            exact ⟨by omega, by rw [if_neg (by omega)]; exact b⟩
          · rw [if_neg e1]
            exact ⟨by omega, by rw [if_neg (by omega)]; exact b⟩
        · rw [List.length_set] at i1
          rw [rs i i0]
          by_cases e1 : i = q
          · subst e1
            rw [if_pos rfl, hv4]
            right
            exact ⟨by omega, by rw [if_pos (by omega)]⟩
          · rw [if_neg e1]
            rcases hO.tw i i0 i1 with a | ⟨a, b⟩
            · exact .inl a
            · exact .inr ⟨by omega, by rw [if_neg (by omega)]; exact b⟩
        · rw [List.length_set]
          by_cases e2 : i = j
          · rw [if_pos e2, rs q hq.1, if_pos rfl, hv4]
            exact ⟨hq, .inr (by omega)⟩
          · rw [if_neg e2]
            obtain ⟨a, b⟩ := hO.al i (by omega)
            rw [rs _ a.1]
            refine ⟨a, ?_⟩
            by_cases e1 : own i = q
            · rw [if_pos e1, hv3]
              rw [e1] at b
              rcases b with b | b
              · exact .inl b
              · omega
            · rw [if_neg e1]
              exact b
      obtain ⟨own', hp, hO2, hR, hW⟩ := own_go l0 d (j + 1) _ _ last _ r _ (by simpa using h1) h2 hc' (fun t t0 t1 ht => by
        rw [rdOf_set _ _ _ _ (by omega) t0] at ht
        by_cases e1 : t = e.f0
        · rw [if_pos e1, hb] at ht; simp at ht
        · rw [if_neg e1] at ht
          obtain ⟨a, b, c⟩ := hop t t0 t1 ht
          rw [List.length_set, rs _ a.1]
          have : rd last t ≠ q := fun hh => e1 (by rw [hh] at b; omega)
          rw [if_neg this]
          exact ⟨a, b, c⟩) hO' hr
      refine ⟨own', fun i hi => ?_, by rw [show j + (d + 1) = j + 1 + d by omega]; exact hO2, fun g lp hlp => ?_, ?_⟩
      · rw [hp i (by omega)]
        exact if_neg (by omega)
      · unfold resp
        rw [← he, if_pos hb]
        refine ⟨?_, hR g lp hlp⟩
        rw [hp j (by omega), hlp e.f0 hf.1 hf.2, ← hqe, if_pos rfl]
      · unfold ow
        rw [← he, if_pos hb]
        rw [List.length_set] at hW
        exact ⟨by rw [hp j (by omega), ← hqe, if_pos rfl], hW⟩
    · have hb' : e.f1 = false := by simpa using hb
      rw [if_neg hb] at hr
      split at hr
      rotate_left
      · cases hr
      obtain ⟨v, hv⟩ : ∃ v : S38, v = ⟨e.f0, e.f2, z36, (j : Int), -1⟩ := ⟨_, rfl⟩
      rw [← hv] at hr
      have hv0 : v.f0 = e.f0 := by rw [hv]
      have hv3 : v.f3 = (j : Int) := by rw [hv]
      have hv4 : v.f4 = -1 := by rw [hv]
      clear hv
      have rs : ∀ i : Int, 0 ≤ i ∧ i ≤ out.length → J38 (out ++ [v]) i = if i = out.length then v else J38 out i := fun i hi => rd38_app out v i hi
      have hO' : Own (out ++ [v]) (j + 1) (fun i => if i = j then (out.length : Int) else own i) := by
        refine ⟨fun i i0 i1 => ?_, fun i i0 i1 => ?_, fun i hi => ?_, fun i i0 i1 => ?_⟩
        rotate_left 3
        · rw [List.length_append, List.length_singleton] at i1
          rw [rs i (by omega)]
          by_cases e1 : i = out.length
          · rw [if_pos e1, hv4]
            exact .inl rfl
          · rw [if_neg e1]
            exact hO.lt i i0 (by omega)
        · rw [List.length_append, List.length_singleton] at i1
          rw [rs i (by omega)]
          by_cases e1 : i = out.length
          · rw [if_pos e1, hv3]
            exact ⟨by omega, by rw [if_pos (by omega)]; exact e1.symm⟩
          · rw [if_neg e1]
            obtain ⟨a, b⟩ := hO.fr i i0 (by omega)
            exact ⟨by omega, by rw [if_neg (by omega)]; exact b⟩
        · rw [List.length_append, List.length_singleton] at i1
          rw [rs i (by omega)]
          by_cases e1 : i = out.length
          · rw [if_pos e1, hv4]
            exact .inl rfl
          · rw [if_neg e1]
            rcases hO.tw i i0 (by omega) with a | ⟨a, b⟩
            · exact .inl a
            · exact .inr ⟨by omega, by rw [if_neg (by omega)]; exact b⟩
        · rw [List.length_append, List.length_singleton]
          by_cases e2 : i = j
          · rw [if_pos e2, rs _ (by omega), if_pos rfl, hv3]
            exact ⟨by omega, .inl (by omega)⟩
          · rw [if_neg e2]
            obtain ⟨a, b⟩ := hO.al i (by omega)
            rw [rs _ (by omega), if_neg (by omega)]
            exact ⟨by omega, b⟩
      obtain ⟨own', hp, hO2, hR, hW⟩ := own_go l0 d (j + 1) _ _ (last.set e.f0.toNat (out.length : Int)) _ r _ (by simpa using h1) (by simpa using h2) hc' (fun t t0 t1 ht => by
        rw [rdOf_set _ _ _ _ (by omega) t0] at ht
        rw [rd_set _ _ _ _ (by omega) t0, List.length_append, List.length_singleton]
        by_cases e1 : t = e.f0
        · rw [if_pos e1, rs _ (by omega), if_pos rfl, hv0, hv4]
          exact ⟨by omega, e1.symm, rfl⟩
        · rw [if_neg e1] at ht
          obtain ⟨a, b, c⟩ := hop t t0 t1 ht
          rw [if_neg e1, rs _ (by omega), if_neg (by omega)]
          exact ⟨by omega, b, c⟩) hO' hr
      refine ⟨own', fun i hi => ?_, by rw [show j + (d + 1) = j + 1 + d by omega]; exact hO2, fun g lp hlp => ?_, ?_⟩
      · rw [hp i (by omega)]
        exact if_neg (by omega)
      · unfold resp
        rw [← he, if_neg hb]
        refine hR g _ fun t t0 t1 => ?_
        rw [rd_set _ _ _ _ (by omega) t0, hp j (by omega), if_pos rfl]
        split
        · rfl
        · exact hlp t t0 t1
      · unfold ow
        rw [← he, if_neg hb]
        rw [List.length_append, List.length_singleton] at hW
        exact ⟨by rw [hp j (by omega), if_pos rfl], hW⟩
def chkL : List S67 → List Bool → List S33 → Int
  | [], _, _ => 0
  | e :: es, op, ops => if e.f0 < 0 ∨ e.f0 ≥ 64 ∨ e.f1 ≠ rdOf false op e.f0 then 3 else if evOk e ops = true then chkL es (op.set e.f0.toNat (!e.f1)) (ops.set e.f0.toNat e.f2) else 3
theorem chkGo_L (l0 : List S67) : ∀ d (j : Nat) (op : List Bool) (ops : List S33), j + d = l0.length → chkGo l0 d j op ops = chkL (l0.drop j) op ops
  | 0, j, op, ops, h => by rw [List.drop_eq_nil_of_le (by omega)]; rfl
  | d + 1, j, op, ops, h => by
    rw [drop67 l0 j (by omega)]
    unfold chkGo chkL
    rw [chkGo_L l0 d (j + 1) _ _ (by omega)]
def flt (l0 : List S67) (p : Nat → Bool) : Nat → Nat → List S67
  | 0, _ => []
  | d + 1, j => if p j = true then J67 l0 (j : Int) :: flt l0 p d (j + 1) else flt l0 p d (j + 1)
theorem keptL_flt (l0 : List S67) (p : Nat → Bool) : ∀ d (j : Nat) (out : List S67), keptL p l0 d j out = out ++ flt l0 p d j
  | 0, j, out => by simp [keptL, flt]
  | d + 1, j, out => by
    unfold keptL flt
    split
    · rw [keptL_flt l0 p d (j + 1)]; simp
    · exact keptL_flt l0 p d (j + 1) out
theorem flt_chk (l0 : List S67) (p : Nat → Bool) : ∀ d (j : Nat) (op opK : List Bool) (ops opsK : List S33) (lp : Int → Bool), op.length = 64 → opK.length = 64 → ops.length = 64 → opsK.length = 64 → chkGo l0 d j op ops = 0 → resp l0 p d j lp →
    (∀ t : Int, 0 ≤ t → t < 64 → rdOf false opK t = (rdOf false op t && lp t) ∧ (rdOf false opK t = true → J33 opsK t = J33 ops t)) → chkL (flt l0 p d j) opK opsK = 0
  | 0, _, _, _, _, _, _, _, _, _, _, _, _, _ => rfl
  | d + 1, j, op, opK, ops, opsK, lp, n1, n2, n3, n4, hc, hR, hI => by
    obtain ⟨hf, hf1, hok, hc'⟩ := chk_step hc
    unfold resp at hR
    obtain ⟨e, he⟩ : ∃ e, e = J67 l0 (j : Int) := ⟨_, rfl⟩
    rw [← he] at hf hf1 hok hc' hR
    have hE := hI e.f0 hf.1 hf.2
    unfold flt
    rw [← he]
    by_cases hb : e.f1 = true
    · rw [if_pos hb] at hR
      obtain ⟨hpj, hR⟩ := hR
      rw [← hf1, hb, Bool.true_and, ← hpj] at hE
      by_cases hpt : p j = true
      · rw [if_pos hpt]
        rw [hpt] at hE
        unfold chkL
        have hok' : evOk e opsK = true := by
          unfold evOk at hok ⊢
          rw [if_pos hb] at hok ⊢
          rw [hE.2 hE.1]
          exact hok
        rw [if_neg (by rw [hE.1, hb]; simp; omega), if_pos hok']
        refine flt_chk l0 p d (j + 1) _ _ _ _ lp (by simpa using n1) (by simpa using n2) (by simpa using n3) (by simpa using n4) hc' hR fun t t0 t1 => ?_
        rw [rdOf_set _ _ _ _ (by omega) t0, rdOf_set _ _ _ _ (by omega) t0, rd33_set _ _ _ _ (by omega) t0, rd33_set _ _ _ _ (by omega) t0]
        by_cases e1 : t = e.f0
        · rw [if_pos e1, if_pos e1, if_pos e1, if_pos e1, hb]
          simp
        · rw [if_neg e1, if_neg e1, if_neg e1, if_neg e1]
          exact hI t t0 t1
      · rw [if_neg hpt]
        have hpf : p j = false := by simpa using hpt
        rw [hpf] at hE
        refine flt_chk l0 p d (j + 1) _ opK _ opsK lp (by simpa using n1) n2 (by simpa using n3) n4 hc' hR fun t t0 t1 => ?_
        rw [rdOf_set _ _ _ _ (by omega) t0, rd33_set _ _ _ _ (by omega) t0]
        by_cases e1 : t = e.f0
        · rw [if_pos e1, if_pos e1, hb, e1, hE.1]
          simp
        · rw [if_neg e1, if_neg e1]
          exact hI t t0 t1
    · have hb' : e.f1 = false := by simpa using hb
      rw [if_neg hb] at hR
      rw [← hf1, hb', Bool.false_and] at hE
      by_cases hpt : p j = true
      · rw [if_pos hpt]
        unfold chkL
        have hok' : evOk e opsK = true := by
          unfold evOk at hok ⊢
          rw [if_neg hb] at hok ⊢
          exact hok
        rw [if_neg (by rw [hE.1, hb']; simp; omega), if_pos hok']
        refine flt_chk l0 p d (j + 1) _ _ _ _ _ (by simpa using n1) (by simpa using n2) (by simpa using n3) (by simpa using n4) hc' hR fun t t0 t1 => ?_
        rw [rdOf_set _ _ _ _ (by omega) t0, rdOf_set _ _ _ _ (by omega) t0, rd33_set _ _ _ _ (by omega) t0, rd33_set _ _ _ _ (by omega) t0]
        by_cases e1 : t = e.f0
        · rw [if_pos e1, if_pos e1, if_pos e1, if_pos e1, hb', if_pos e1, hpt]
          simp
        · rw [if_neg e1, if_neg e1, if_neg e1, if_neg e1, if_neg e1]
          exact hI t t0 t1
      · rw [if_neg hpt]
        have hpf : p j = false := by simpa using hpt
        refine flt_chk l0 p d (j + 1) _ opK _ opsK _ (by simpa using n1) n2 (by simpa using n3) n4 hc' hR fun t t0 t1 => ?_
        rw [rdOf_set _ _ _ _ (by omega) t0, rd33_set _ _ _ _ (by omega) t0]
        by_cases e1 : t = e.f0
        · rw [if_pos e1, if_pos e1, if_pos e1, hb', e1, hE.1, hpf]
          simp
        · rw [if_neg e1, if_neg e1, if_neg e1]
          exact hI t t0 t1
theorem rdOf_rep (n : Nat) (t : Int) : rdOf false (List.replicate n false) t = false := by
  unfold rdOf
  rw [List.getD_eq_getElem?_getD, List.getElem?_replicate]
  split <;> rfl
theorem kept_chk (l0 : List S67) (p : Nat → Bool) (lp : Int → Bool) (hl : l0.length ≤ 100000) (hc : chkGo l0 l0.length 0 (List.replicate 64 false) (List.replicate 64 z33) = 0) (hR : resp l0 p l0.length 0 lp) : event_Check.f (keptL p l0 l0.length 0 []) = some 0 := by
  have hlen := keptL_len p l0 l0.length 0 []
  unfold event_Check.f
  rw [if_neg (by simp at hlen; omega), chkGo_L _ _ 0 _ _ (by omega), List.drop_zero, keptL_flt, List.nil_append, flt_chk l0 p l0.length 0 (List.replicate 64 false) _ (List.replicate 64 z33) _ lp (by simp) (by simp) (by simp) (by simp) hc hR (fun t t0 t1 => by
    rw [rdOf_rep]
    exact ⟨rfl, fun h => by cases h⟩)]
theorem check_nil : event_Check.f [] = some 0 := by
  unfold event_Check.f
  simp [chkGo]
theorem keptL_congr (l0 : List S67) (p p' : Nat → Bool) : ∀ d (j : Nat) (out : List S67), (∀ i, j ≤ i → i < j + d → p i = p' i) → keptL p l0 d j out = keptL p' l0 d j out
  | 0, _, _, _ => rfl
  | d + 1, j, out, h => by
    unfold keptL
    rw [h j (by omega) (by omega)]
    split
    · exact keptL_congr l0 p p' d (j + 1) _ fun i a b => h i (by omega) (by omega)
    · exact keptL_congr l0 p p' d (j + 1) _ fun i a b => h i (by omega) (by omega)
theorem pairsGo_refl (a : List S70) : ∀ d j, pairsGo a a d j = true
  | 0, _ => rfl
  | d + 1, j => by unfold pairsGo; rw [pairsGo_refl a d (j + 1)]; simp
theorem evSame_refl (a : S67) : evSame a a = true := by
  unfold evSame sameRetB opSame
  simp [pairsGo_refl]
theorem seGo_refl (a : List S67) : ∀ d j, seGo a a d j = true
  | 0, _ => rfl
  | d + 1, j => by unfold seGo; rw [seGo_refl a d (j + 1), evSame_refl]; simp
theorem seB_refl (a : List S67) : seB a a = true := by
  unfold seB
  rw [seGo_refl]
  simp
theorem same_kept (l0 : List S67) (p : Nat → Bool) (hl : l0.length ≤ 100000) (hp : ∀ e ∈ l0, e.f3.f3.length ≤ 1048576) : Ev (fun k => larchref05_SameEvents.f k (keptL p l0 l0.length 0 []) (keptL p l0 l0.length 0 [])) true := by
  have hlen := keptL_len p l0 l0.length 0 []
  have := se_ev (keptL p l0 l0.length 0 []) (keptL p l0 l0.length 0 []) (by simp at hlen; omega) (fun e he => by
    rcases keptL_mem _ l0 l0.length 0 [] (by omega) e he with h | h
    · simp at h
    · exact hp e h)
  rw [seB_refl] at this
  exact this
theorem same_nil : Ev (fun k => larchref05_SameEvents.f k [] []) true := by
  have := se_ev [] [] (by simp) (by simp)
  rw [seB_refl] at this
  exact this
end Go.Proofs.Ytagdkmcgepidoaa.P
/- P5 -/
namespace Go.Proofs.Ytagdkmcgepidoaa.P
open Go.RowKit Go.Proofs.YtagdkmcgepidoaaW.PrintWords Go.Proofs.YtagdkmcgepidoaaW.PrintLast Go.Proofs.YtagdkmcgepidoaaW.PrintMore
theorem places_go (r : List S38) (n : Nat) (own : Nat → Int) (hO : Own r n own) (hr : r.length ≤ 100000) : ∀ d (m : Nat) (x : List Int) (k : Nat), m + d = r.length → d < k → x.length = n → (∀ i : Nat, i < n → own i < m → rd x (i : Int) = own i) →
    ∃ wh, event_places.l0 k x r (r.length : Int) (m : Int) = some wh ∧ wh.length = n ∧ ∀ i : Nat, i < n → rd wh (i : Int) = own i
  | 0, m, x, k, hd, hk, hx, hI => by
    obtain ⟨k, rfl⟩ : ∃ k', k = k' + 1 := ⟨k - 1, by omega⟩
    refine ⟨x, ?_, hx, fun i hi => hI i hi (by have := hO.al i hi; omega)⟩
    simp only [event_places.l0]
    rw [if_neg (by omega)]
  | d + 1, m, x, k, hd, hk, hx, hI => by
    obtain ⟨k, rfl⟩ : ∃ k', k = k' + 1 := ⟨k - 1, by omega⟩
    obtain ⟨a, b⟩ := hO.fr (m : Int) (by omega) (by omega)
    have hn : ∀ y : List Int, y = x.set (J38 r (m : Int)).f3.toNat (m : Int) → ∀ i : Nat, i < n → own i < ((m + 1 : Nat) : Int) → ((J38 r (m : Int)).f4 ≠ (i : Int)) → rd y (i : Int) = own i := by
      intro y hy i hi h1 h2
      rw [hy, rd_set _ _ _ _ (by omega) (by omega)]
      obtain ⟨-, h3⟩ := hO.al i hi
      by_cases e1 : own i = (m : Int)
      · rw [e1] at h3
        rw [if_pos (by omega), e1]
      · rw [if_neg (fun hh => e1 (by rw [← hh] at b; simpa using b))]
        exact hI i hi (by omega)
    rcases hO.tw (m : Int) (by omega) (by omega) with h4 | ⟨h4, h5⟩
    · obtain ⟨wh, w1, w2, w3⟩ := places_go r n own hO hr d (m + 1) (x.set (J38 r (m : Int)).f3.toNat (m : Int)) k (by omega) (by omega) (by simpa using hx) (fun i hi hlt => hn _ rfl i hi hlt (by omega))
      refine ⟨wh, ?_, w2, w3⟩
      simp only [event_places.l0]
      rw [if_pos (by omega), if_pos (by omega), if_pos (by omega), if_pos a.1, if_pos (by omega)]
      simp only [Option.bind_some]
      rw [if_neg (by omega), wrap_succ (by omega)]
      exact w1
    · obtain ⟨wh, w1, w2, w3⟩ := places_go r n own hO hr d (m + 1) ((x.set (J38 r (m : Int)).f3.toNat (m : Int)).set (J38 r (m : Int)).f4.toNat (m : Int)) k (by omega) (by omega) (by simpa using hx) (fun i hi hlt => by
        rw [rd_set _ _ _ _ (by rw [List.length_set]; omega) (by omega)]
        by_cases e1 : (i : Int) = (J38 r (m : Int)).f4
        · rw [if_pos e1]
          rw [← e1] at h5
          simpa using h5.symm
        · rw [if_neg e1]
          exact hn _ rfl i hi hlt (fun hh => e1 hh.symm))
      refine ⟨wh, ?_, w2, w3⟩
      simp only [event_places.l0]
      rw [if_pos (by omega), if_pos (by omega), if_pos (by omega), if_pos a.1, if_pos (by omega)]
      simp only [Option.bind_some]
      rw [if_pos (by omega), if_pos h4.1, if_pos (by omega), wrap_succ (by omega)]
      exact w1
theorem places_val (l0 : List S67) (r : List S38) (own : Nat → Int) (hO : Own r l0.length own) (hl : l0.length ≤ 100000) (hr : r.length ≤ l0.length) : ∃ wh, event_places.f 200002 l0 r = some wh ∧ wh.length = l0.length ∧ ∀ i : Nat, i < l0.length → rd wh (i : Int) = own i := by
  obtain ⟨wh, w1, w2, w3⟩ := places_go r l0.length own hO (by omega) r.length 0 (List.replicate l0.length 0) 200002 (by omega) (by omega) (by simp) (fun i hi h => by have := hO.al i hi; omega)
  refine ⟨wh, ?_, w2, w3⟩
  unfold event_places.f
  rw [if_pos (by omega), if_pos (by omega)]
  exact w1
theorem ref1_go (l0 : List S67) (inn : List Bool) (hl : l0.length ≤ 100000) (hi : inn.length = l0.length) (hp : ∀ e ∈ l0, e.f3.f3.length ≤ 1048576) : ∀ d (j : Nat) (out : List S67), j + d = l0.length → out.length ≤ j → (∀ e ∈ out, e.f3.f3.length ≤ 1048576) → Ev (fun k => larchref05_kept.l1 k l0 inn out (j : Int)) (keptL (fun i => rdOf false inn (i : Int)) l0 d j out)
  | 0, j, out, hd, ho, hq => by
    refine Ev.succ (Ev.congr (g := fun k => (larchref05_CopyEvents.f k out).bind fun t => some t) (Ev.bind (copy_ev out (by omega) hq) (Ev.const _)) fun k => ?_)
    simp only [larchref05_kept.l1]
    rw [if_neg (by omega)]
  | d + 1, j, out, hd, ho, hq => by
    have hpe := hp _ (rd67_mem l0 j (by omega))
    unfold keptL
    by_cases h : rdOf false inn (j : Int) = true
    · rw [if_pos h]
      refine Ev.succ ((ref1_go l0 inn hl hi hp d (j + 1) (out ++ [J67 l0 (j : Int)]) (by omega) (by simp; omega) (fun e he => by
        rcases List.mem_append.1 he with h1 | h1
        · exact hq e h1
        · simp at h1; rw [h1]; exact hpe)).congr fun k => ?_)
      simp only [larchref05_kept.l1]
      rw [if_pos (by omega), if_pos (by omega), if_pos (by omega), if_pos h, if_pos (by omega), wrap_succ (by omega)]
    · rw [if_neg h]
      refine Ev.succ ((ref1_go l0 inn hl hi hp d (j + 1) out (by omega) (by omega) hq).congr fun k => ?_)
      simp only [larchref05_kept.l1]
      rw [if_pos (by omega), if_pos (by omega), if_pos (by omega), if_neg h, wrap_succ (by omega)]
theorem ref0_go (l0 : List S67) (r : List S38) (own : Nat → Int) (keep : List Bool) (hO : Own r l0.length own) (hl : l0.length ≤ 100000) (hr : r.length ≤ l0.length) (hkl : keep.length = r.length) (hp : ∀ e ∈ l0, e.f3.f3.length ≤ 1048576) :
    ∀ d (m : Nat) (x : List Bool), m + d = r.length → x.length = l0.length → (∀ i : Nat, i < l0.length → rdOf false x (i : Int) = (decide (own i < m) && rdOf false keep (own i))) →
    Ev (fun k => larchref05_kept.l0 k l0 keep (r.map conv) x (m : Int)) (keptL (fun i => rdOf false keep (own i)) l0 l0.length 0 [])
  | 0, m, x, hd, hx, hI => by
    refine Ev.succ ((ref1_go l0 x hl hx hp l0.length 0 [] (by omega) (by simp) (by simp)).congr' ?_ fun k => ?_)
    · refine keptL_congr l0 _ _ _ _ _ fun i _ hi => ?_
      have := (hO.al i (by omega)).1
      rw [hI i (by omega), decide_eq_true (by omega), Bool.true_and]
    · simp only [larchref05_kept.l0, List.length_map]
      rw [if_neg (by omega)]
      rfl
  | d + 1, m, x, hd, hx, hI => by
    obtain ⟨a, b⟩ := hO.fr (m : Int) (by omega) (by omega)
    have hrd : J76 (r.map conv) (m : Int) = conv (J38 r (m : Int)) := rd76_map r (m : Int) ⟨by omega, by omega⟩
    have c3 : (conv (J38 r (m : Int))).f3 = (J38 r (m : Int)).f3 := rfl
    have c4 : (conv (J38 r (m : Int))).f4 = (J38 r (m : Int)).f4 := rfl
    have stay : ∀ i : Nat, own i ≠ (m : Int) → (decide (own i < ((m + 1 : Nat) : Int)) && rdOf false keep (own i)) = (decide (own i < m) && rdOf false keep (own i)) := by
      intro i hi
      congr 1
      exact decide_eq_decide.mpr (by omega)
    by_cases hk : rdOf false keep (m : Int) = true
    · have hn : ∀ y : List Bool, y = x.set (J38 r (m : Int)).f3.toNat true → ∀ i : Nat, i < l0.length → ((J38 r (m : Int)).f4 ≠ (i : Int)) → rdOf false y (i : Int) = (decide (own i < ((m + 1 : Nat) : Int)) && rdOf false keep (own i)) := by
        intro y hy i hi h2
        rw [hy, rdOf_set _ _ _ _ (by omega) (by omega)]
        obtain ⟨-, h3⟩ := hO.al i hi
        by_cases e1 : own i = (m : Int)
        · rw [e1] at h3 ⊢
          rw [if_pos (by omega), hk, decide_eq_true (by omega)]
          rfl
        · rw [if_neg (fun hh => e1 (by rw [← hh] at b; simpa using b)), stay i e1]
          exact hI i hi
      rcases hO.tw (m : Int) (by omega) (by omega) with h4 | ⟨h4, h5⟩
      · refine Ev.succ ((ref0_go l0 r own keep hO hl hr hkl hp d (m + 1) (x.set (J38 r (m : Int)).f3.toNat true) (by omega) (by simpa using hx) (fun i hi => hn _ rfl i hi (by omega))).congr fun k => ?_)
        simp only [larchref05_kept.l0, List.length_map, hrd, c3, c4]
        rw [if_pos (by omega), if_pos (by omega), if_pos (by omega), if_pos hk, if_pos a.1, if_pos (by omega)]
        simp only [Option.bind_some]
        rw [if_pos h4, wrap_succ (by omega)]
      · refine Ev.succ ((ref0_go l0 r own keep hO hl hr hkl hp d (m + 1) ((x.set (J38 r (m : Int)).f3.toNat true).set (J38 r (m : Int)).f4.toNat true) (by omega) (by simpa using hx) (fun i hi => by
          rw [rdOf_set _ _ _ _ (by rw [List.length_set]; omega) (by omega)]
          by_cases e1 : (i : Int) = (J38 r (m : Int)).f4
          · rw [if_pos e1]
            rw [← e1] at h5
            have h6 : own i = (m : Int) := by simpa using h5
            rw [h6, hk, decide_eq_true (by omega)]
            rfl
          · rw [if_neg e1]
            exact hn _ rfl i hi (fun hh => e1 hh.symm))).congr fun k => ?_)
        simp only [larchref05_kept.l0, List.length_map, hrd, c3, c4]
        rw [if_pos (by omega), if_pos (by omega), if_pos (by omega), if_pos hk, if_pos a.1, if_pos (by omega)]
        simp only [Option.bind_some]
        rw [if_neg (by omega), if_pos h4.1, if_pos (by omega), wrap_succ (by omega)]
    · have hk' : rdOf false keep (m : Int) = false := by simpa using hk
      refine Ev.succ ((ref0_go l0 r own keep hO hl hr hkl hp d (m + 1) x (by omega) hx (fun i hi => by
        by_cases e1 : own i = (m : Int)
        · rw [hI i hi, e1, hk']
          simp
        · rw [stay i e1]
          exact hI i hi)).congr fun k => ?_)
      simp only [larchref05_kept.l0, List.length_map, hrd, c3, c4]
      rw [if_pos (by omega), if_pos (by omega), if_pos (by omega), if_neg hk, wrap_succ (by omega)]
theorem kept_ev (l0 : List S67) (r : List S38) (own : Nat → Int) (keep : List Bool) (hO : Own r l0.length own) (hl : l0.length ≤ 100000) (hr : r.length ≤ l0.length) (hkl : keep.length = r.length) (hp : ∀ e ∈ l0, e.f3.f3.length ≤ 1048576)
    (hc : Ev (fun k => larchref05_calls.f k l0) (r.map conv)) : Ev (fun k => larchref05_kept.f k l0 keep) (keptL (fun i => rdOf false keep (own i)) l0 l0.length 0 []) := by
  unfold larchref05_kept.f
  refine Ev.bind hc ((ref0_go l0 r own keep hO hl hr hkl hp r.length 0 (List.replicate l0.length false) (by omega) (by simp) (fun i hi => ?_)).congr fun k => ?_)
  · have := (hO.al i hi).1
    rw [rdOf_rep, decide_eq_false (by omega)]
    rfl
  · rw [if_pos (by omega), if_pos (by omega)]
    rfl
theorem all_of (l0 : List S67) (hp : ∀ e ∈ l0, e.f3.f3.length ≤ 1048576) (hE : event_Check.f l0 = some 0) : l0.length ≤ 100000 ∧ chkGo l0 l0.length 0 (List.replicate 64 false) (List.replicate 64 z33) = 0 ∧ ∃ (r : List S38) (own : Nat → Int),
    event_Calls.f l0 = some (r, 0) ∧ Ev (fun k => larchref05_Calls.f k l0) (r.map conv, 0) ∧ Ev (fun k => larchref05_calls.f k l0) (r.map conv) ∧ r.length ≤ l0.length ∧ Own r l0.length own ∧ ∀ g : Int → Bool, resp l0 (fun i => g (own i)) l0.length 0 (fun _ => g 0) := by
  obtain ⟨c, hc, hR, h0⟩ := check_both l0
  rw [hE] at hc
  cases hc
  obtain ⟨hl, hchk⟩ := h0 rfl
  obtain ⟨r, ha, hb, hk⟩ := calls_both l0 hl hp l0.length 0 (List.replicate 64 false) (List.replicate 64 z33) (List.replicate 64 0) [] (by omega) (by simp) (by simp) (by simp) hchk (fun i _ _ hi => by
    rw [rdOf_rep] at hi
    cases hi) (by simp) (by simp)
  obtain ⟨own, -, hO, hG, -⟩ := own_go l0 l0.length 0 (List.replicate 64 false) (List.replicate 64 z33) (List.replicate 64 0) [] r (fun _ => 0) (by simp) (by simp) hchk (fun t _ _ ht => by
    rw [rdOf_rep] at ht
    cases ht) ⟨fun q q0 q1 => by simp at q1; omega, fun q q0 q1 => by simp at q1; omega, fun i hi => by omega, fun q q0 q1 => by simp at q1; omega⟩ ha
  rw [Nat.zero_add] at hO
  have hcl : Ev (fun k => larchref05_calls.f k l0) (r.map conv) := hb.congr fun k => by
    unfold larchref05_calls.f
    rw [if_pos (by decide)]
    rfl
  refine ⟨hl, hchk, r, own, ?_, ?_, hcl, hk.len, hO, fun g => hG g _ fun t t0 t1 => ?_⟩
  · unfold event_Calls.f event_calls.f
    rw [hE]
    simp only [Option.bind_some, if_true]
    rw [ha]
    rfl
  · unfold larchref05_Calls.f
    refine Ev.bind hR ?_
    simp only [if_true]
    exact Ev.bind hcl (Ev.const _)
  · unfold rd
    rw [List.getD_eq_getElem?_getD, List.getElem?_replicate]
    split <;> rfl
theorem bad_of (l0 : List S67) (c : Int) (hE : event_Check.f l0 = some c) (h0 : c ≠ 0) : event_Calls.f l0 = some ([], c) ∧ Ev (fun k => larchref05_Calls.f k l0) ([], c) := by
  obtain ⟨c', hc, hR, -⟩ := check_both l0
  rw [hE] at hc
  cases hc
  refine ⟨?_, ?_⟩
  · unfold event_Calls.f
    rw [hE]
    simp only [Option.bind_some, if_neg h0]
  · unfold larchref05_Calls.f
    refine Ev.bind hR ?_
    simp only [if_neg h0]
    exact Ev.const _
theorem cut_go (l0 : List S67) (n : Int) (r : List S38) (own : Nat → Int) (hO : Own r l0.length own) (hl : l0.length ≤ 100000) (hr : r.length ≤ l0.length) (hp : ∀ e ∈ l0, e.f3.f3.length ≤ 1048576) (hc : Ev (fun k => larchref05_calls.f k l0) (r.map conv)) :
    ∀ d (m : Nat) (x : List Bool), m + d = r.length → x.length = r.length → (∀ q : Int, 0 ≤ q → q < m → rdOf false x q = decide (q < n)) →
    Ev (fun k => larchref05_Cut.l0 k l0 n (r.map conv) x (m : Int)) (keptL (fun i => decide (own i < n)) l0 l0.length 0 [], 0)
  | 0, m, x, hd, hx, hI => by
    refine Ev.succ (Ev.congr' (g := fun k => (larchref05_kept.f k l0 x).bind fun t => some (t, (0 : Int))) (Ev.bind (kept_ev l0 r own x hO hl hr hx hp hc) (Ev.const _)) ?_ fun k => ?_)
    · rw [keptL_congr l0 _ (fun i => rdOf false x (own i))]
      intro i _ hi
      have := (hO.al i (by omega)).1
      rw [hI _ this.1 (by omega)]
    · simp only [larchref05_Cut.l0, List.length_map]
      rw [if_neg (by omega)]
  | d + 1, m, x, hd, hx, hI => by
    refine Ev.succ ((cut_go l0 n r own hO hl hr hp hc d (m + 1) (x.set m (decide ((m : Int) < n))) (by omega) (by simpa using hx) (fun q q0 q1 => by
      have := rdOf_set x (m : Int) q (decide ((m : Int) < n)) (by omega) q0
      rw [Int.toNat_natCast] at this
      rw [this]
      by_cases e1 : q = m
      · rw [if_pos e1, e1]
      · rw [if_neg e1]
        exact hI q q0 (by omega))).congr fun k => ?_)
    simp only [larchref05_Cut.l0, List.length_map]
    rw [if_pos (by omega), if_pos (by omega), if_pos (by omega), wrap_succ (by omega), Int.toNat_natCast]
theorem mem_rd (wh : List Int) (x : Int) (h : x ∈ wh) : ∃ i : Nat, i < wh.length ∧ rd wh (i : Int) = x := by
  obtain ⟨i, hi, rfl⟩ := List.mem_iff_getElem.1 h
  refine ⟨i, hi, ?_⟩
  unfold rd
  rw [Int.toNat_natCast, List.getD_eq_getElem?_getD, List.getElem?_eq_getElem hi]
  rfl
theorem cut_both (l0 : List S67) (hp : ∀ e ∈ l0, e.f3.f3.length ≤ 1048576) (n : Int) : ∃ (v : List S67) (c : Int), event_Cut.f l0 n = some (v, c) ∧ Ev (fun k => larchref05_Cut.f k l0 n) (v, c) ∧ event_Check.f v = some 0 ∧ Ev (fun k => larchref05_SameEvents.f k v v) true := by
  obtain ⟨c, hE, hR, -⟩ := check_both l0
  by_cases e0 : c = 0
  · subst e0
    obtain ⟨hl, hchk, r, own, hA, hB, hC, hr, hO, hG⟩ := all_of l0 hp hE
    by_cases hn : n < 0
    · refine ⟨[], 1, ?_, ?_, check_nil, same_nil⟩
      · unfold event_Cut.f
        rw [hA]
        simp only [Option.bind_some, if_true]
        rw [if_pos hn]
      · unfold larchref05_Cut.f
        refine Ev.bind hB ?_
        simp only [if_true]
        exact (Ev.const _).congr fun k => if_pos hn
    · obtain ⟨wh, w1, w2, w3⟩ := places_val l0 r own hO hl hr
      have hkc : keptL (cutP wh n) l0 l0.length 0 [] = keptL (fun i => decide (own i < n)) l0 l0.length 0 [] := keptL_congr l0 _ _ _ _ _ fun i _ hi => by
        unfold cutP
        rw [w3 i (by omega)]
      refine ⟨keptL (fun i => decide (own i < n)) l0 l0.length 0 [], 0, ?_, ?_, kept_chk l0 _ _ hl hchk (hG fun q => decide (q < n)), same_kept l0 _ hl hp⟩
      · unfold event_Cut.f
        rw [hA]
        simp only [Option.bind_some, if_true]
        rw [if_neg hn, w1]
        simp only [Option.bind_some]
        rw [if_pos ⟨⟨hl, hp⟩, w2⟩, hkc]
      · unfold larchref05_Cut.f
        refine Ev.bind hB ?_
        simp only [if_true]
        refine (cut_go l0 n r own hO hl hr hp hC r.length 0 (List.replicate r.length false) (by omega) (by simp) (fun q q0 q1 => by omega)).congr fun k => ?_
        simp only [List.length_map]
        rw [if_neg hn, if_pos (by omega), if_pos (by omega)]
        rfl
  · obtain ⟨hA, hB⟩ := bad_of l0 c hE e0
    refine ⟨[], c, ?_, ?_, check_nil, same_nil⟩
    · unfold event_Cut.f
      rw [hA]
      simp only [Option.bind_some, if_neg e0]
    · unfold larchref05_Cut.f
      refine Ev.bind hB ?_
      simp only [if_neg e0]
      exact Ev.const _
theorem done_go (l0 : List S67) (r : List S38) (own : Nat → Int) (hO : Own r l0.length own) (hl : l0.length ≤ 100000) (hr : r.length ≤ l0.length) (hp : ∀ e ∈ l0, e.f3.f3.length ≤ 1048576) (hc : Ev (fun k => larchref05_calls.f k l0) (r.map conv)) :
    ∀ d (m : Nat) (x : List Bool), m + d = r.length → x.length = r.length → (∀ q : Int, 0 ≤ q → q < m → rdOf false x q = ((J38 r q).f4 != -1)) →
    Ev (fun k => larchref05_Done.l0 k l0 (r.map conv) x (m : Int)) (keptL (fun i => (J38 r (own i)).f4 != -1) l0 l0.length 0 [], 0)
  | 0, m, x, hd, hx, hI => by
    refine Ev.succ (Ev.congr' (g := fun k => (larchref05_kept.f k l0 x).bind fun t => some (t, (0 : Int))) (Ev.bind (kept_ev l0 r own x hO hl hr hx hp hc) (Ev.const _)) ?_ fun k => ?_)
    · rw [keptL_congr l0 _ (fun i => rdOf false x (own i))]
      intro i _ hi
      have := (hO.al i (by omega)).1
      rw [hI _ this.1 (by omega)]
    · simp only [larchref05_Done.l0, List.length_map]
      rw [if_neg (by omega)]
  | d + 1, m, x, hd, hx, hI => by
    refine Ev.succ ((done_go l0 r own hO hl hr hp hc d (m + 1) (x.set m ((J38 r (m : Int)).f4 != -1)) (by omega) (by simpa using hx) (fun q q0 q1 => by
      have := rdOf_set x (m : Int) q ((J38 r (m : Int)).f4 != -1) (by omega) q0
      rw [Int.toNat_natCast] at this
      rw [this]
      by_cases e1 : q = m
      · rw [if_pos e1, e1]
      · rw [if_neg e1]
        exact hI q q0 (by omega))).congr fun k => ?_)
    simp only [larchref05_Done.l0, List.length_map]
    rw [if_pos (by omega), if_pos (by omega), if_pos (by omega), wrap_succ (by omega), Int.toNat_natCast, rd76_map r (m : Int) ⟨by omega, by omega⟩]
    rfl
theorem done_both (l0 : List S67) (hp : ∀ e ∈ l0, e.f3.f3.length ≤ 1048576) : ∃ (v : List S67) (c : Int), event_Done.f l0 = some (v, c) ∧ Ev (fun k => larchref05_Done.f k l0) (v, c) ∧ event_Check.f v = some 0 ∧ Ev (fun k => larchref05_SameEvents.f k v v) true := by
  obtain ⟨c, hE, hR, -⟩ := check_both l0
  by_cases e0 : c = 0
  · subst e0
    obtain ⟨hl, hchk, r, own, hA, hB, hC, hr, hO, hG⟩ := all_of l0 hp hE
    obtain ⟨wh, w1, w2, w3⟩ := places_val l0 r own hO hl hr
    have hkc : keptL (doneP r wh) l0 l0.length 0 [] = keptL (fun i => (J38 r (own i)).f4 != -1) l0 l0.length 0 [] := keptL_congr l0 _ _ _ _ _ fun i _ hi => by
      unfold doneP
      rw [w3 i (by omega)]
      have h1 := (hO.al i (by omega)).1
      have h2 := hO.tw _ h1.1 h1.2
      rcases h2 with h2 | h2
      · rw [h2]; rfl
      · rw [decide_eq_true (by omega)]
        exact (bne_iff_ne.mpr (by omega)).symm
    refine ⟨keptL (fun i => (J38 r (own i)).f4 != -1) l0 l0.length 0 [], 0, ?_, ?_, kept_chk l0 _ _ hl hchk (hG fun q => (J38 r q).f4 != -1), same_kept l0 _ hl hp⟩
    · unfold event_Done.f
      rw [hA]
      simp only [Option.bind_some, if_true]
      rw [w1]
      simp only [Option.bind_some]
      rw [if_pos ⟨⟨⟨hl, hp⟩, w2⟩, fun x hx => by
        obtain ⟨i, hi, rfl⟩ := mem_rd wh x hx
        rw [w3 i (by omega)]
        exact (hO.al i (by omega)).1⟩, hkc]
    · unfold larchref05_Done.f
      refine Ev.bind hB ?_
      simp only [if_true]
      refine (done_go l0 r own hO hl hr hp hC r.length 0 (List.replicate r.length false) (by omega) (by simp) (fun q q0 q1 => by omega)).congr fun k => ?_
      simp only [List.length_map]
      rw [if_pos (by omega), if_pos (by omega)]
      rfl
  · obtain ⟨hA, hB⟩ := bad_of l0 c hE e0
    refine ⟨[], c, ?_, ?_, check_nil, same_nil⟩
    · unfold event_Done.f
      rw [hA]
      simp only [Option.bind_some, if_neg e0]
    · unfold larchref05_Done.f
      refine Ev.bind hB ?_
      simp only [if_neg e0]
      exact Ev.const _
theorem of_resp (l0 : List S67) (t : Int) : ∀ d (j : Nat) (lp : Int → Bool), (∀ x, lp x = (x == t)) → resp l0 (ofP l0 t) d j lp
  | 0, _, _, _ => trivial
  | d + 1, j, lp, h => by
    unfold resp
    split
    · exact ⟨(h _).symm, of_resp l0 t d (j + 1) lp h⟩
    · refine of_resp l0 t d (j + 1) _ fun x => ?_
      by_cases e : x = (J67 l0 (j : Int)).f0
      · rw [if_pos e, e]
        rfl
      · rw [if_neg e]
        exact h x
theorem of_all (l0 : List S67) (hp : ∀ e ∈ l0, e.f3.f3.length ≤ 1048576) (t : Int) : ∃ (v : List S67) (c : Int), event_Of.f l0 t = some (v, c) ∧ Ev (fun k => larchref05_Of.f k l0 t) (v, c) ∧ event_Check.f v = some 0 ∧ Ev (fun k => larchref05_SameEvents.f k v v) true := by
  obtain ⟨v, c, h1, h2, h3, h4⟩ := of_both l0 hp t
  refine ⟨v, c, h1, h2, ?_⟩
  by_cases e0 : c = 0
  · subst e0
    obtain ⟨c', hE, hR, h0⟩ := check_both l0
    have e1 : c' = 0 := by
      refine Decidable.byContradiction fun hh => ?_
      unfold event_Of.f at h1
      rw [hE] at h1
      simp only [Option.bind_some, if_neg hh, Option.some.injEq, Prod.mk.injEq] at h1
      exact hh h1.2
    obtain ⟨hl, hchk⟩ := h0 e1
    rw [h3 rfl]
    exact ⟨kept_chk l0 _ (fun x => x == t) hl hchk (of_resp l0 t _ _ _ fun _ => rfl), same_kept l0 _ hl hp⟩
  · rw [h4 e0]
    exact ⟨check_nil, same_nil⟩
end Go.Proofs.Ytagdkmcgepidoaa.P
/- P6 -/
namespace Go.Proofs.Ytagdkmcgepidoaa.P
open Go.RowKit Go.Proofs.YtagdkmcgepidoaaW.PrintWords Go.Proofs.YtagdkmcgepidoaaW.PrintLast Go.Proofs.YtagdkmcgepidoaaW.PrintMore
theorem rd38_mem' (r : List S38) (i : Int) (hi : 0 ≤ i ∧ i < r.length) : J38 r i ∈ r := by
  unfold J38
  rw [List.getD_eq_getElem?_getD, List.getElem?_eq_getElem (by omega)]
  exact List.getElem_mem _
end Go.Proofs.Ytagdkmcgepidoaa.P
/- P7 -/
namespace Go.Proofs.Ytagdkmcgepidoaa.P
open Go.RowKit Go.Proofs.YtagdkmcgepidoaaW.PrintWords Go.Proofs.YtagdkmcgepidoaaW.PrintLast Go.Proofs.YtagdkmcgepidoaaW.PrintMore
section
variable (xs : List S38)
def alK (s i : Nat) : Nat → Nat → Bool
  | 0, _ => true
  | d + 1, k => (k == i || (s.testBit k || !aheadB (J38 xs (k : Int)) (J38 xs (i : Int)))) && alK s i d (k + 1)
def okS (s i : Nat) : Bool := !s.testBit i && alK xs s i xs.length 0
end
end Go.Proofs.Ytagdkmcgepidoaa.P
/- P8 -/
namespace Go.Proofs.Ytagdkmcgepidoaa.P
open Go.RowKit Go.Proofs.YtagdkmcgepidoaaW.PrintWords Go.Proofs.YtagdkmcgepidoaaW.PrintLast Go.Proofs.YtagdkmcgepidoaaW.PrintMore
structure Seq (l0 : List S67) (out : List S38) (j : Nat) : Prop where
  bd : ∀ q : Int, 0 ≤ q → q < out.length → (0 ≤ (J38 out q).f3 ∧ (J38 out q).f3 < j) ∧ ((J38 out q).f4 = -1 ∨ (0 ≤ (J38 out q).f4 ∧ (J38 out q).f4 < j))
  mo : ∀ q q' : Int, 0 ≤ q → q < q' → q' < out.length → (J38 out q).f3 < (J38 out q').f3
  th : ∀ q q' : Int, 0 ≤ q → q < q' → q' < out.length → (J38 out q).f0 = (J38 out q').f0 → 0 ≤ (J38 out q).f4 ∧ (J38 out q).f4 < (J38 out q').f3
  e1 : ∀ i : Nat, i < j → (J67 l0 (i : Int)).f1 = true → ∃ q : Int, (0 ≤ q ∧ q < out.length) ∧ (J38 out q).f4 = i
  e0 : ∀ i : Nat, i < j → (J67 l0 (i : Int)).f1 = false → ∃ q : Int, (0 ≤ q ∧ q < out.length) ∧ (J38 out q).f3 = i
theorem seq_go (l0 : List S67) : ∀ d (j : Nat) (op : List Bool) (ops : List S33) (last : List Int) (out r : List S38), op.length = 64 → last.length = 64 → chkGo l0 d j op ops = 0 →
    (∀ t : Int, 0 ≤ t → t < 64 → rdOf false op t = true → (0 ≤ rd last t ∧ rd last t < out.length) ∧ (J38 out (rd last t)).f0 = t ∧ (J38 out (rd last t)).f4 = -1) →
    (∀ q : Int, 0 ≤ q → q < out.length → (J38 out q).f4 = -1 → (0 ≤ (J38 out q).f0 ∧ (J38 out q).f0 < 64) ∧ rdOf false op (J38 out q).f0 = true ∧ rd last (J38 out q).f0 = q) →
    Seq l0 out j → callsGo l0 d j last out = some r → Seq l0 r (j + d)
  | 0, j, op, ops, last, out, r, _, _, _, _, _, hS, hr => by
    simp only [callsGo, Option.some.injEq] at hr
    subst hr
    exact hS
  | d + 1, j, op, ops, last, out, r, h1, h2, hc, hop, hcl, hS, hr => by
    obtain ⟨hf, hf1, -, hc'⟩ := chk_step hc
    obtain ⟨e, he⟩ : ∃ e, e = J67 l0 (j : Int) := ⟨_, rfl⟩
    simp only [callsGo, ← he] at hr
    rw [← he] at hf hf1 hc'
    rw [if_pos hf] at hr
    rw [show j + (d + 1) = j + 1 + d by omega]
    by_cases hb : e.f1 = true
    · obtain ⟨hq, hq0, hq4⟩ := hop e.f0 hf.1 hf.2 (by rw [← hf1]; exact hb)
      obtain ⟨q, hqe⟩ : ∃ q, q = rd last e.f0 := ⟨_, rfl⟩
      rw [if_pos hb] at hr
      rw [← hqe] at hq hq0 hq4 hr
      split at hr
      rotate_left
      · cases hr
      rename_i hg
      obtain ⟨v, hv⟩ : ∃ v : S38, v = ⟨(J38 out q).f0, (J38 out q).f1, e.f3, (J38 out q).f3, (j : Int)⟩ := ⟨_, rfl⟩
      rw [← hv] at hr
      have hv0 : v.f0 = (J38 out q).f0 := by rw [hv]
      have hv3 : v.f3 = (J38 out q).f3 := by rw [hv]
      have hv4 : v.f4 = (j : Int) := by rw [hv]
      clear hv hg
      have rs : ∀ i : Int, 0 ≤ i → J38 (out.set q.toNat v) i = if i = q then v else J38 out i := fun i hi => rd38_set out q i v hq hi
      have r0 : ∀ i : Int, 0 ≤ i → (J38 (out.set q.toNat v) i).f0 = (J38 out i).f0 := fun i hi => by
        rw [rs i hi]
        by_cases e1 : i = q
        · rw [if_pos e1, hv0, e1]
        · rw [if_neg e1]
      have r3 : ∀ i : Int, 0 ≤ i → (J38 (out.set q.toNat v) i).f3 = (J38 out i).f3 := fun i hi => by
        rw [rs i hi]
        by_cases e1 : i = q
        · rw [if_pos e1, hv3, e1]
        · rw [if_neg e1]
      have r4 : ∀ i : Int, 0 ≤ i → (J38 (out.set q.toNat v) i).f4 = if i = q then (j : Int) else (J38 out i).f4 := fun i hi => by
        rw [rs i hi]
        by_cases e1 : i = q
        · rw [if_pos e1, if_pos e1, hv4]
        · rw [if_neg e1, if_neg e1]
      refine seq_go l0 d (j + 1) _ _ last _ r (by simpa using h1) h2 hc' (fun t t0 t1 ht => ?_) (fun i i0 i1 hi => ?_) ⟨fun i i0 i1 => ?_, fun i i' i0 i1 i2 => ?_, fun i i' i0 i1 i2 h => ?_, fun i hi hh => ?_, fun i hi hh => ?_⟩ hr
      · rw [rdOf_set _ _ _ _ (by omega) t0] at ht
        by_cases e1 : t = e.f0
        · rw [if_pos e1, hb] at ht; simp at ht
        · rw [if_neg e1] at ht
          obtain ⟨a, b, c⟩ := hop t t0 t1 ht
          rw [List.length_set, rs _ a.1]
          have : rd last t ≠ q := fun hh => e1 (by rw [hh] at b; omega)
          rw [if_neg this]
          exact ⟨a, b, c⟩
      · rw [List.length_set] at i1
        rw [r4 i i0] at hi
        by_cases e1 : i = q
        · rw [if_pos e1] at hi; omega
        · rw [if_neg e1] at hi
          obtain ⟨a, b, c⟩ := hcl i i0 i1 hi
          rw [r0 i i0]
          have ne : (J38 out i).f0 ≠ e.f0 := fun hh => e1 (by rw [hh, ← hqe] at c; exact c.symm)
          refine ⟨a, ?_, c⟩
          rw [rdOf_set _ _ _ _ (by omega) a.1, if_neg ne]
          exact b
      · rw [List.length_set] at i1
        obtain ⟨a, b⟩ := hS.bd i i0 i1
        rw [r3 i i0, r4 i i0]
        refine ⟨by omega, ?_⟩
        split
        · right; omega
        · omega
      · rw [List.length_set] at i2
        rw [r3 i i0, r3 i' (by omega)]
        exact hS.mo i i' i0 i1 i2
      · rw [List.length_set] at i2
        rw [r0 i i0, r0 i' (by omega)] at h
        have := hS.th i i' i0 i1 i2 h
        rw [r4 i i0, r3 i' (by omega)]
        by_cases e1 : i = q
        · rw [e1] at this; omega
        · rw [if_neg e1]
          exact this
      · by_cases e2 : i = j
        · exact ⟨q, by rw [List.length_set]; exact hq, by rw [r4 q hq.1, if_pos rfl, e2]⟩
        · obtain ⟨p, a, b⟩ := hS.e1 i (by omega) hh
          refine ⟨p, by rw [List.length_set]; exact a, ?_⟩
          rw [r4 p a.1, if_neg (fun hp => by rw [hp, hq4] at b; omega)]
          exact b
      · by_cases e2 : i = j
        · rw [e2, ← he, hb] at hh
          cases hh
        · obtain ⟨p, a, b⟩ := hS.e0 i (by omega) hh
          exact ⟨p, by rw [List.length_set]; exact a, by rw [r3 p a.1]; exact b⟩
    · have hb' : e.f1 = false := by simpa using hb
      rw [if_neg hb] at hr
      split at hr
      rotate_left
      · cases hr
      obtain ⟨v, hv⟩ : ∃ v : S38, v = ⟨e.f0, e.f2, z36, (j : Int), -1⟩ := ⟨_, rfl⟩
      rw [← hv] at hr
      have hv0 : v.f0 = e.f0 := by rw [hv]
      have hv3 : v.f3 = (j : Int) := by rw [hv]
      have hv4 : v.f4 = -1 := by rw [hv]
      clear hv
      have rs : ∀ i : Int, 0 ≤ i ∧ i ≤ out.length → J38 (out ++ [v]) i = if i = out.length then v else J38 out i := fun i hi => rd38_app out v i hi
      have rn : J38 (out ++ [v]) (out.length : Int) = v := by rw [rs _ (by omega), if_pos rfl]
      have ro : ∀ i : Int, 0 ≤ i → i < out.length → J38 (out ++ [v]) i = J38 out i := fun i a b => by rw [rs i (by omega), if_neg (by omega)]
      have hL : ((out ++ [v]).length : Int) = out.length + 1 := by simp
      refine seq_go l0 d (j + 1) _ _ (last.set e.f0.toNat (out.length : Int)) _ r (by simpa using h1) (by simpa using h2) hc' (fun t t0 t1 ht => ?_) (fun i i0 i1 hi => ?_) ⟨fun i i0 i1 => ?_, fun i i' i0 i1 i2 => ?_, fun i i' i0 i1 i2 h => ?_, fun i hi hh => ?_, fun i hi hh => ?_⟩ hr
      · rw [rdOf_set _ _ _ _ (by omega) t0] at ht
        rw [rd_set _ _ _ _ (by omega) t0, hL]
        by_cases e1 : t = e.f0
        · rw [if_pos e1, rn, hv0, hv4]
          exact ⟨by omega, e1.symm, rfl⟩
        · rw [if_neg e1] at ht
          obtain ⟨a, b, c⟩ := hop t t0 t1 ht
          rw [if_neg e1, ro _ a.1 a.2]
          exact ⟨by omega, b, c⟩
      · rw [hL] at i1
        by_cases e1 : i = out.length
        · rw [e1, rn, hv0, rdOf_set _ _ _ _ (by omega) hf.1, if_pos rfl, rd_set _ _ _ _ (by omega) hf.1, if_pos rfl, hb']
          exact ⟨hf, rfl, rfl⟩
        · rw [ro i i0 (by omega)] at hi ⊢
          obtain ⟨a, b, c⟩ := hcl i i0 (by omega) hi
          have ne : (J38 out i).f0 ≠ e.f0 := fun hh => by rw [hh, ← hf1, hb'] at b; cases b
          rw [rdOf_set _ _ _ _ (by omega) a.1, if_neg ne, rd_set _ _ _ _ (by omega) a.1, if_neg ne]
          exact ⟨a, b, c⟩
      · rw [hL] at i1
        by_cases e1 : i = out.length
        · rw [e1, rn, hv3, hv4]
          exact ⟨by omega, .inl rfl⟩
        · rw [ro i i0 (by omega)]
          have := hS.bd i i0 (by omega)
          omega
      · rw [hL] at i2
        by_cases e1 : i' = out.length
        · rw [e1, rn, hv3, ro i i0 (by omega)]
          exact (hS.bd i i0 (by omega)).1.2
        · rw [ro i' (by omega) (by omega), ro i i0 (by omega)]
          exact hS.mo i i' i0 i1 (by omega)
      · rw [hL] at i2
        by_cases e1 : i' = out.length
        · rw [e1, rn, hv0, ro i i0 (by omega)] at h
          rw [e1, rn, hv3, ro i i0 (by omega)]
          rcases (hS.bd i i0 (by omega)).2 with h4 | h4
          · obtain ⟨_, b, _⟩ := hcl i i0 (by omega) h4
            rw [h, ← hf1, hb'] at b
            cases b
          · exact h4
        · rw [ro i' (by omega) (by omega), ro i i0 (by omega)] at h ⊢
          exact hS.th i i' i0 i1 (by omega) h
      · by_cases e2 : i = j
        · rw [e2, ← he, hb'] at hh
          cases hh
        · obtain ⟨p, a, b⟩ := hS.e1 i (by omega) hh
          exact ⟨p, by rw [hL]; omega, by rw [ro p a.1 a.2]; exact b⟩
      · by_cases e2 : i = j
        · exact ⟨(out.length : Int), by rw [hL]; omega, by rw [rn, hv3, e2]⟩
        · obtain ⟨p, a, b⟩ := hS.e0 i (by omega) hh
          exact ⟨p, by rw [hL]; omega, by rw [ro p a.1 a.2]; exact b⟩
theorem seq_of (l0 : List S67) (r : List S38) (hE : event_Check.f l0 = some 0) (hl : l0.length ≤ 100000) (hA : event_Calls.f l0 = some (r, 0)) : Seq l0 r l0.length := by
  have hchk : chkGo l0 l0.length 0 (List.replicate 64 false) (List.replicate 64 z33) = 0 := by
    unfold event_Check.f at hE
    rw [if_neg (by omega)] at hE
    exact Option.some.inj hE
  have hcg : callsGo l0 l0.length 0 (List.replicate 64 0) [] = some r := by
    unfold event_Calls.f event_calls.f at hA
    rw [hE] at hA
    simp only [Option.bind_some, if_true] at hA
    obtain ⟨t, h1, h2⟩ := Option.bind_eq_some_iff.mp hA
    cases h2
    exact h1
  have := seq_go l0 l0.length 0 (List.replicate 64 false) (List.replicate 64 z33) (List.replicate 64 0) [] r (by simp) (by simp) hchk (fun t _ _ ht => by
    rw [rdOf_rep] at ht
    cases ht) (fun q q0 q1 => by simp at q1; omega) ⟨fun q q0 q1 => by simp at q1; omega, fun q q' q0 q1 q2 => by simp at q2; omega, fun q q' q0 q1 q2 => by simp at q2; omega, fun i hi => by omega, fun i hi => by omega⟩ hcg
  rwa [Nat.zero_add] at this
end Go.Proofs.Ytagdkmcgepidoaa.P
/- P10 -/
namespace Go.Proofs.Ytagdkmcgepidoaa.P
open Go.RowKit Go.Proofs.YtagdkmcgepidoaaW.PrintWords Go.Proofs.YtagdkmcgepidoaaW.PrintLast Go.Proofs.YtagdkmcgepidoaaW.PrintMore
def sm (g : Nat → Nat) : Nat → Nat
  | 0 => 0
  | d + 1 => sm g d + g d
section
variable (xs : List S38)
def fF : Nat → Nat → Nat
  | 0, _ => 0
  | k + 1, t => if t = 0 then 1 else sm (fun i => if (t.testBit i && okS xs (t ^^^ 2 ^ i) i) = true then fF k (t ^^^ 2 ^ i) else 0) xs.length
def F (t : Nat) : Nat := fF xs (t + 1) t
def hT (s i0 t i : Nat) : Nat := if (t.testBit i && (decide (t ^^^ 2 ^ i < s ∨ (t ^^^ 2 ^ i = s ∧ i < i0)) && okS xs (t ^^^ 2 ^ i) i)) = true then F xs (t ^^^ 2 ^ i) else 0
def hV (s i0 t : Nat) : Nat := (if t = 0 then 1 else 0) + sm (hT xs s i0 t) xs.length
variable (hup : ∀ i k : Nat, i < k → k < xs.length → aheadB (J38 xs (k : Int)) (J38 xs (i : Int)) = false)
end
end Go.Proofs.Ytagdkmcgepidoaa.P
/- P11 -/
namespace Go.Proofs.Ytagdkmcgepidoaa.P
open Go.RowKit Go.Proofs.YtagdkmcgepidoaaW.PrintWords Go.Proofs.YtagdkmcgepidoaaW.PrintLast Go.Proofs.YtagdkmcgepidoaaW.PrintMore
theorem donL_set : ∀ (out : List S38) (q : Nat) (y : S38) (h : q < out.length), pendB out[q] = true → pendB y = false → (donL (out.set q y)).length = (donL out).length + 1
  | [], q, y, h, _, _ => by simp at h
  | x :: xs, 0, y, _, h1, h2 => by
    have h1' : pendB x = true := h1
    unfold donL
    rw [List.set_cons_zero, List.filter_cons_of_pos (by rw [h2]; rfl), List.filter_cons_of_neg (by rw [h1']; decide), List.length_cons]
  | x :: xs, q + 1, y, h, h1, h2 => by
    have ih := donL_set xs q y (by simpa using h) (by simpa using h1) h2
    rw [List.set_cons_succ]
    unfold donL at ih ⊢
    by_cases hx : pendB x = true
    · rw [List.filter_cons_of_neg (by rw [hx]; decide), List.filter_cons_of_neg (by rw [hx]; decide)]
      exact ih
    · have hx' : pendB x = false := by simpa using hx
      rw [List.filter_cons_of_pos (by rw [hx']; rfl), List.filter_cons_of_pos (by rw [hx']; rfl), List.length_cons, List.length_cons, ih]
theorem half_go (l0 : List S67) : ∀ d (j : Nat) (op : List Bool) (ops : List S33) (last : List Int) (out r : List S38), op.length = 64 → last.length = 64 → chkGo l0 d j op ops = 0 →
    (∀ t : Int, 0 ≤ t → t < 64 → rdOf false op t = true → (0 ≤ rd last t ∧ rd last t < out.length) ∧ (J38 out (rd last t)).f0 = t ∧ (J38 out (rd last t)).f4 = -1) → out.length + (donL out).length = j → callsGo l0 d j last out = some r → r.length + (donL r).length = j + d
  | 0, j, op, ops, last, out, r, _, _, _, _, hh, hr => by
    simp only [callsGo, Option.some.injEq] at hr
    subst hr
    exact hh
  | d + 1, j, op, ops, last, out, r, h1, h2, hc, hop, hh, hr => by
    obtain ⟨hf, hf1, -, hc'⟩ := chk_step hc
    obtain ⟨e, he⟩ : ∃ e, e = J67 l0 (j : Int) := ⟨_, rfl⟩
    simp only [callsGo, ← he] at hr
    rw [← he] at hf hf1 hc'
    rw [if_pos hf] at hr
    rw [show j + (d + 1) = j + 1 + d by omega]
    by_cases hb : e.f1 = true
    · obtain ⟨hq, hq0, hq4⟩ := hop e.f0 hf.1 hf.2 (by rw [← hf1]; exact hb)
      obtain ⟨q, hqe⟩ : ∃ q, q = rd last e.f0 := ⟨_, rfl⟩
      rw [if_pos hb] at hr
      rw [← hqe] at hq hq0 hq4 hr
      split at hr
      rotate_left
      · cases hr
      rename_i hg
      obtain ⟨v, hv⟩ : ∃ v : S38, v = ⟨(J38 out q).f0, (J38 out q).f1, e.f3, (J38 out q).f3, (j : Int)⟩ := ⟨_, rfl⟩
      rw [← hv] at hr
      have hv4 : v.f4 = (j : Int) := by rw [hv]
      clear hv hg
      refine half_go l0 d (j + 1) _ _ last _ r (by simpa using h1) h2 hc' (fun t t0 t1 ht => ?_) ?_ hr
      · rw [rdOf_set _ _ _ _ (by omega) t0] at ht
        by_cases e1 : t = e.f0
        · rw [if_pos e1, hb] at ht; simp at ht
        · rw [if_neg e1] at ht
          obtain ⟨a, b, c⟩ := hop t t0 t1 ht
          rw [List.length_set, rd38_set out q _ v hq a.1]
          have : rd last t ≠ q := fun hh => e1 (by rw [hh] at b; omega)
          rw [if_neg this]
          exact ⟨a, b, c⟩
      · have hqn : q.toNat < out.length := by omega
        have hg : out[q.toNat] = J38 out q := by
          rw [rd38_get out q.toNat hqn, Int.toNat_of_nonneg hq.1]
        rw [List.length_set, donL_set out q.toNat v hqn (by rw [hg]; unfold pendB; rw [hq4]; rfl) (by unfold pendB; rw [hv4]; exact decide_eq_false (by omega))]
        omega
    · have hb' : e.f1 = false := by simpa using hb
      rw [if_neg hb] at hr
      split at hr
      rotate_left
      · cases hr
      obtain ⟨v, hv⟩ : ∃ v : S38, v = ⟨e.f0, e.f2, z36, (j : Int), -1⟩ := ⟨_, rfl⟩
      rw [← hv] at hr
      have hv0 : v.f0 = e.f0 := by rw [hv]
      have hv4 : v.f4 = -1 := by rw [hv]
      clear hv
      refine half_go l0 d (j + 1) _ _ (last.set e.f0.toNat (out.length : Int)) _ r (by simpa using h1) (by simpa using h2) hc' (fun t t0 t1 ht => ?_) ?_ hr
      · rw [rdOf_set _ _ _ _ (by omega) t0] at ht
        rw [rd_set _ _ _ _ (by omega) t0, List.length_append, List.length_singleton]
        by_cases e1 : t = e.f0
        · rw [if_pos e1, rd38_app out v _ (by omega), if_pos rfl, hv0, hv4]
          exact ⟨by omega, e1.symm, rfl⟩
        · rw [if_neg e1] at ht
          obtain ⟨a, b, c⟩ := hop t t0 t1 ht
          rw [if_neg e1, rd38_app out v _ (by omega), if_neg (by omega)]
          exact ⟨by omega, b, c⟩
      · unfold donL
        rw [List.filter_append, List.length_append, List.length_append, List.length_singleton, List.filter_cons_of_neg (by unfold pendB; rw [hv4]; decide)]
        unfold donL at hh
        simp only [List.filter_nil, List.length_nil]
        omega
end Go.Proofs.Ytagdkmcgepidoaa.P
/- P12 -/
namespace Go.Proofs.Ytagdkmcgepidoaa.P
open Go.RowKit Go.Proofs.YtagdkmcgepidoaaW.PrintWords Go.Proofs.YtagdkmcgepidoaaW.PrintLast Go.Proofs.YtagdkmcgepidoaaW.PrintMore
structure All (l0 : List S67) (r : List S38) (own : Nat → Int) : Prop where
  len : l0.length ≤ 100000
  chk : chkGo l0 l0.length 0 (List.replicate 64 false) (List.replicate 64 z33) = 0
  calls : event_Calls.f l0 = some (r, 0)
  go : callsGo l0 l0.length 0 (List.replicate 64 0) [] = some r
  rl : r.length ≤ l0.length
  ow : Own r l0.length own
  sq : Seq l0 r l0.length
  wk : Go.Proofs.Ytagdkmcgepidoaa.P.ow l0 own l0.length 0 (List.replicate 64 0) 0
  half : r.length + (donL r).length = l0.length
  rs : ∀ g : Int → Bool, resp l0 (fun i => g (own i)) l0.length 0 (fun _ => g 0)
theorem all_of2 (l0 : List S67) (hp : ∀ e ∈ l0, e.f3.f3.length ≤ 1048576) (hE : event_Check.f l0 = some 0) : ∃ (r : List S38) (own : Nat → Int), All l0 r own := by
  obtain ⟨hl, hchk, r, own0, hA, hB, hC, hr, -, -⟩ := all_of l0 hp hE
  have hcg : callsGo l0 l0.length 0 (List.replicate 64 0) [] = some r := by
    have hA' := hA
    unfold event_Calls.f event_calls.f at hA'
    rw [hE] at hA'
    simp only [Option.bind_some, if_true] at hA'
    obtain ⟨t, h1, h2⟩ := Option.bind_eq_some_iff.mp hA'
    cases h2
    exact h1
  obtain ⟨own, -, hO, hG, hW⟩ := own_go l0 l0.length 0 (List.replicate 64 false) (List.replicate 64 z33) (List.replicate 64 0) [] r (fun _ => 0) (by simp) (by simp) hchk (fun t _ _ ht => by
    rw [rdOf_rep] at ht
    cases ht) ⟨fun q q0 q1 => by simp at q1; omega, fun q q0 q1 => by simp at q1; omega, fun i hi => by omega, fun q q0 q1 => by simp at q1; omega⟩ hcg
  rw [Nat.zero_add] at hO
  have hH := half_go l0 l0.length 0 (List.replicate 64 false) (List.replicate 64 z33) (List.replicate 64 0) [] r (by simp) (by simp) hchk (fun t _ _ ht => by
    rw [rdOf_rep] at ht
    cases ht) rfl hcg
  refine ⟨r, own, hl, hchk, hA, hcg, hr, hO, seq_of l0 r hE hl hA, hW, by omega, fun g => hG g _ fun t t0 t1 => ?_⟩
  unfold rd
  rw [List.getD_eq_getElem?_getD, List.getElem?_replicate]
  split <;> rfl
theorem All.tw {l0 : List S67} {r : List S38} {own : Nat → Int} (h : All l0 r own) : ∀ x ∈ r, x.f4 = -1 ∨ 0 ≤ x.f4 := by
  intro x hx
  obtain ⟨i, hi, rfl⟩ := List.mem_iff_getElem.1 hx
  rw [rd38_get r i hi]
  rcases h.ow.tw (i : Int) (by omega) (by omega) with h | h
  · exact .inl h
  · exact .inr h.1.1
theorem All.lt {l0 : List S67} {r : List S38} {own : Nat → Int} (h : All l0 r own) : ∀ x ∈ r, x.f4 = -1 ∨ x.f3 < x.f4 := by
  intro x hx
  obtain ⟨i, hi, rfl⟩ := List.mem_iff_getElem.1 hx
  rw [rd38_get r i hi]
  exact h.ow.lt (i : Int) (by omega) (by omega)
structure Rising (xs : List S38) : Prop where
  mo : ∀ i k : Nat, i < k → k < xs.length → (J38 xs (i : Int)).f3 < (J38 xs (k : Int)).f3
  lt : ∀ i : Nat, i < xs.length → (J38 xs (i : Int)).f4 = -1 ∨ (J38 xs (i : Int)).f3 < (J38 xs (i : Int)).f4
theorem Rising.don {r : List S38} (h : Rising r) : Rising (donL r) := by
  have hpw : r.Pairwise (fun a b => a.f3 < b.f3) := by
    rw [List.pairwise_iff_getElem]
    intro i j hi hj hij
    rw [rd38_get r i hi, rd38_get r j hj]
    exact h.mo i j hij hj
  have hpd : (donL r).Pairwise (fun a b => a.f3 < b.f3) := hpw.filter _
  rw [List.pairwise_iff_getElem] at hpd
  refine ⟨fun i k hik hk => ?_, fun i hi => ?_⟩
  · have := hpd i k (by omega) hk hik
    rwa [rd38_get (donL r) i (by omega), rd38_get (donL r) k hk] at this
  · have hm : J38 (donL r) (i : Int) ∈ r := (List.mem_filter.1 (rd38_mem' (donL r) (i : Int) ⟨by omega, by omega⟩)).1
    obtain ⟨q, hq, he⟩ := List.mem_iff_getElem.1 hm
    rw [← he, rd38_get r q hq]
    exact h.lt q hq
end Go.Proofs.Ytagdkmcgepidoaa.P
/- P13 -/
namespace Go.Proofs.Ytagdkmcgepidoaa.P
open Go.RowKit Go.Proofs.YtagdkmcgepidoaaW.PrintWords Go.Proofs.YtagdkmcgepidoaaW.PrintLast Go.Proofs.YtagdkmcgepidoaaW.PrintMore
theorem chkL_cons (e : S67) (es : List S67) (op : List Bool) (ops : List S33) : chkL (e :: es) op ops = 0 ↔ (0 ≤ e.f0 ∧ e.f0 < 64 ∧ e.f1 = rdOf false op e.f0 ∧ evOk e ops = true) ∧ chkL es (op.set e.f0.toNat (!e.f1)) (ops.set e.f0.toNat e.f2) = 0 := by
  constructor
  · intro h
    unfold chkL at h
    split at h
    · cases h
    · rename_i hc
      split at h
      · rename_i hv
        have hc' := not_or.mp hc
        have hc2 := not_or.mp hc'.2
        exact ⟨⟨by omega, by omega, Decidable.not_not.mp hc2.2, hv⟩, h⟩
      · cases h
  · rintro ⟨⟨h1, h2, h3, h4⟩, h5⟩
    unfold chkL
    rw [if_neg, if_pos h4]
    · exact h5
    · rintro (h | h | h)
      · omega
      · omega
      · exact h h3
end Go.Proofs.Ytagdkmcgepidoaa.P
/- P14 -/
namespace Go.Proofs.Ytagdkmcgepidoaa.P
open Go.RowKit Go.Proofs.YtagdkmcgepidoaaW.PrintWords Go.Proofs.YtagdkmcgepidoaaW.PrintLast Go.Proofs.YtagdkmcgepidoaaW.PrintMore
theorem bare_z36 (n : S36) (h : bareB n = true) : n = z36 := by
  obtain ⟨a, b, c, d⟩ := n
  unfold bareB at h
  simp at h
  obtain ⟨rfl, rfl, rfl, h⟩ := h
  have : d = [] := by
    cases d with
    | nil => rfl
    | cons x xs => simp at h
  subst this
  rfl
structure Cont (h : List S67) (out : List S38) : Prop where
  iv : ∀ q : Int, 0 ≤ q → q < out.length → J67 h (J38 out q).f3 = invE (J38 out q)
  rt : ∀ q : Int, 0 ≤ q → q < out.length → (J38 out q).f4 ≠ -1 → J67 h (J38 out q).f4 = retE (J38 out q)
  pn : ∀ q : Int, 0 ≤ q → q < out.length → (J38 out q).f4 = -1 → (J38 out q).f2 = z36
theorem cont_go (l0 : List S67) : ∀ d (j : Nat) (op : List Bool) (ops : List S33) (last : List Int) (out r : List S38), op.length = 64 → ops.length = 64 → last.length = 64 → chkGo l0 d j op ops = 0 →
    (∀ t : Int, 0 ≤ t → t < 64 → rdOf false op t = true → (0 ≤ rd last t ∧ rd last t < out.length) ∧ (J38 out (rd last t)).f0 = t ∧ (J38 out (rd last t)).f1 = J33 ops t) →
    Cont l0 out → callsGo l0 d j last out = some r → Cont l0 r
  | 0, j, op, ops, last, out, r, _, _, _, _, _, hS, hr => by
    simp only [callsGo, Option.some.injEq] at hr
    subst hr
    exact hS
  | d + 1, j, op, ops, last, out, r, h1, h3, h2, hc, hop, hS, hr => by
    obtain ⟨hf, hf1, hv, hc'⟩ := chk_step hc
    obtain ⟨e, he⟩ : ∃ e, e = J67 l0 (j : Int) := ⟨_, rfl⟩
    simp only [callsGo, ← he] at hr
    rw [← he] at hf hf1 hv hc'
    rw [if_pos hf] at hr
    by_cases hb : e.f1 = true
    · obtain ⟨hq, hq0, hq1⟩ := hop e.f0 hf.1 hf.2 (by rw [← hf1]; exact hb)
      rw [if_pos hb] at hr
      split at hr
      rotate_left
      · cases hr
      obtain ⟨q, hqe⟩ : ∃ q, q = rd last e.f0 := ⟨_, rfl⟩
      rw [← hqe] at hq hq0 hq1 hr
      unfold evOk at hv
      rw [if_pos hb, opSame_iff] at hv
      obtain ⟨v, hv'⟩ : ∃ v : S38, v = ⟨(J38 out q).f0, (J38 out q).f1, e.f3, (J38 out q).f3, (j : Int)⟩ := ⟨_, rfl⟩
      rw [← hv'] at hr
      have rs : ∀ i : Int, 0 ≤ i → J38 (out.set q.toNat v) i = if i = q then v else J38 out i := fun i hi => rd38_set out q i v hq hi
      refine cont_go l0 d (j + 1) _ _ last _ r (by simpa using h1) (by simpa using h3) h2 hc' (fun t t0 t1 ht => ?_) ⟨fun i i0 i1 => ?_, fun i i0 i1 => ?_, fun i i0 i1 => ?_⟩ hr
      · rw [rdOf_set _ _ _ _ (by omega) t0] at ht
        by_cases e1 : t = e.f0
        · rw [if_pos e1, hb] at ht; cases ht
        · rw [if_neg e1] at ht
          obtain ⟨k1, k2, k3⟩ := hop t t0 t1 ht
          have hne : rd last t ≠ q := fun h => e1 (by rw [← k2, h, hq0])
          rw [rs _ k1.1, if_neg hne, rd33_set _ _ _ _ (by omega) t0, if_neg e1]
          exact ⟨by simpa using k1, k2, k3⟩
      · rw [rs i i0]
        by_cases e1 : i = q
        · rw [if_pos e1, hv']
          exact hS.iv q hq.1 hq.2
        · rw [if_neg e1]
          exact hS.iv i i0 (by simpa using i1)
      · rw [rs i i0]
        by_cases e1 : i = q
        · rw [if_pos e1, hv']
          intro _
          show J67 l0 (j : Int) = ⟨(J38 out q).f0, true, (J38 out q).f1, e.f3⟩
          rw [hq0, hq1, ← he, ← hb]
          obtain ⟨e0, e1', e2, e3⟩ := e
          simp only at hv ⊢
          rw [hv]
        · rw [if_neg e1]
          exact hS.rt i i0 (by simpa using i1)
      · rw [rs i i0]
        by_cases e1 : i = q
        · rw [if_pos e1, hv']
          intro h
          simp only at h
          omega
        · rw [if_neg e1]
          exact hS.pn i i0 (by simpa using i1)
    · have hb' : e.f1 = false := by simpa using hb
      rw [if_neg hb] at hr
      split at hr
      rotate_left
      · cases hr
      unfold evOk at hv
      rw [if_neg hb] at hv
      simp only [Bool.and_eq_true] at hv
      have hz := bare_z36 _ hv.2.2
      obtain ⟨v, hv'⟩ : ∃ v : S38, v = ⟨e.f0, e.f2, z36, (j : Int), -1⟩ := ⟨_, rfl⟩
      rw [← hv'] at hr
      have ra : ∀ i : Int, 0 ≤ i ∧ i ≤ out.length → J38 (out ++ [v]) i = if i = out.length then v else J38 out i := fun i hi => rd38_app out v i hi
      refine cont_go l0 d (j + 1) _ _ _ _ r (by simpa using h1) (by simpa using h3) (by simpa using h2) hc' (fun t t0 t1 ht => ?_) ⟨fun i i0 i1 => ?_, fun i i0 i1 => ?_, fun i i0 i1 => ?_⟩ hr
      · rw [rdOf_set _ _ _ _ (by omega) t0] at ht
        rw [rd_set _ _ _ _ (by omega) t0, rd33_set _ _ _ _ (by omega) t0]
        by_cases e1 : t = e.f0
        · rw [if_pos e1, if_pos e1, ra _ ⟨by omega, by omega⟩, if_pos rfl, hv']
          exact ⟨⟨by omega, by rw [List.length_append, List.length_singleton]; omega⟩, e1.symm, rfl⟩
        · rw [if_neg e1] at ht
          rw [if_neg e1, if_neg e1]
          obtain ⟨k1, k2, k3⟩ := hop t t0 t1 ht
          rw [ra _ ⟨k1.1, by omega⟩, if_neg (by omega)]
          exact ⟨⟨k1.1, by simp; omega⟩, k2, k3⟩
      · simp only [List.length_append, List.length_singleton] at i1
        rw [ra _ ⟨i0, by omega⟩]
        by_cases e1 : i = out.length
        · rw [if_pos e1, hv']
          show J67 l0 (j : Int) = ⟨e.f0, false, e.f2, z36⟩
          rw [← he, ← hb', ← hz]
        · rw [if_neg e1]
          exact hS.iv i i0 (by omega)
      · simp only [List.length_append, List.length_singleton] at i1
        rw [ra _ ⟨i0, by omega⟩]
        by_cases e1 : i = out.length
        · rw [if_pos e1, hv']
          intro h
          exact absurd rfl h
        · rw [if_neg e1]
          exact hS.rt i i0 (by omega)
      · simp only [List.length_append, List.length_singleton] at i1
        rw [ra _ ⟨i0, by omega⟩]
        by_cases e1 : i = out.length
        · rw [if_pos e1, hv']
          intro _
          rfl
        · rw [if_neg e1]
          exact hS.pn i i0 (by omega)
def putsOf (c : S38) : List (Int × S67) := (c.f3, invE c) :: if c.f4 = -1 then [] else [(c.f4, retE c)]
def evL (n : Nat) : List S38 → Int → List Bool → List S67 → Option (List S67)
  | [], _, _, out => some out
  | c :: cs, fr, set, out =>
    if c.f3 ≤ fr then none
    else if okAt n set c.f3 = true then
      (if c.f4 = -1 then (if bareB c.f2 = true then evL n cs c.f3 (set.set c.f3.toNat true) (out.set c.f3.toNat (invE c)) else none)
      else if c.f4 ≤ c.f3 then none
      else if okAt n (set.set c.f3.toNat true) c.f4 = true then evL n cs c.f3 ((set.set c.f3.toNat true).set c.f4.toNat true) ((out.set c.f3.toNat (invE c)).set c.f4.toNat (retE c))
      else none)
    else none
theorem drop38 (l : List S38) (j : Nat) (h : j < l.length) : l.drop j = J38 l (j : Int) :: l.drop (j + 1) := by
  rw [List.drop_eq_getElem_cons h]
  congr 1
  unfold J38
  rw [Int.toNat_natCast, List.getD_eq_getElem?_getD, List.getElem?_eq_getElem h]
  rfl
theorem evGo_L (cs : List S38) (n : Nat) : ∀ d (j : Nat) (fr : Int) (set : List Bool) (out : List S67), j + d = cs.length → evGo cs n d j fr set out = evL n (cs.drop j) fr set out
  | 0, j, fr, set, out, h => by rw [List.drop_eq_nil_of_le (by omega)]; rfl
  | d + 1, j, fr, set, out, h => by
    rw [drop38 cs j (by omega)]
    unfold evGo evL
    rw [evGo_L cs n d (j + 1) _ _ _ (by omega), evGo_L cs n d (j + 1) _ _ _ (by omega)]
structure Fill (n : Nat) (PL : List (Int × S67)) (set : List Bool) (out : List S67) : Prop where
  ls : set.length = n
  lo : out.length = n
  pt : ∀ x ∈ PL, (0 ≤ x.1 ∧ x.1 < n) ∧ rdOf false set x.1 = true ∧ J67 out x.1 = x.2
  un : ∀ p : Int, 0 ≤ p → p < n → rdOf false set p = false → J67 out p = z67
  us : ∀ p : Int, 0 ≤ p → p < n → rdOf false set p = true → ∃ e, (p, e) ∈ PL
theorem rd67_set (x : List S67) (a i : Int) (v : S67) (ha : 0 ≤ a ∧ a < x.length) (hi : 0 ≤ i) : J67 (x.set a.toNat v) i = if i = a then v else J67 x i := by
  unfold J67
  rw [List.getD_eq_getElem?_getD, List.getD_eq_getElem?_getD]
  by_cases e : i = a
  · rw [if_pos e, e, List.getElem?_set_self (by omega)]
    rfl
  · rw [if_neg e, List.getElem?_set_ne (by omega)]
theorem fill_put {n : Nat} {PL : List (Int × S67)} {set : List Bool} {out : List S67} (h : Fill n PL set out) (p : Int) (e : S67) (hk : okAt n set p = true) : Fill n (PL ++ [(p, e)]) (set.set p.toNat true) (out.set p.toNat e) := by
  rw [okAt_iff] at hk
  obtain ⟨⟨p0, p1⟩, hp⟩ := hk
  have hs : ∀ i : Int, 0 ≤ i → rdOf false (set.set p.toNat true) i = if i = p then true else rdOf false set i := fun i hi => rdOf_set set p i true ⟨p0, by rw [h.ls]; exact p1⟩ hi
  have ho : ∀ i : Int, 0 ≤ i → J67 (out.set p.toNat e) i = if i = p then e else J67 out i := fun i hi => rd67_set out p i e ⟨p0, by rw [h.lo]; exact p1⟩ hi
  refine ⟨by simpa using h.ls, by simpa using h.lo, fun x hx => ?_, fun q q0 q1 hq => ?_, fun q q0 q1 hq => ?_⟩
  · rcases List.mem_append.1 hx with hx | hx
    · obtain ⟨h1, h2, h3⟩ := h.pt x hx
      have hne : x.1 ≠ p := fun he => by rw [he, hp] at h2; cases h2
      rw [hs _ h1.1, ho _ h1.1, if_neg hne, if_neg hne]
      exact ⟨h1, h2, h3⟩
    · simp only [List.mem_singleton] at hx
      subst hx
      rw [hs _ p0, ho _ p0, if_pos rfl, if_pos rfl]
      exact ⟨⟨p0, p1⟩, rfl, rfl⟩
  · rw [hs _ q0] at hq
    by_cases e1 : q = p
    · rw [if_pos e1] at hq; cases hq
    · rw [if_neg e1] at hq
      rw [ho _ q0, if_neg e1]
      exact h.un q q0 q1 hq
  · rw [hs _ q0] at hq
    by_cases e1 : q = p
    · exact ⟨e, List.mem_append.2 (.inr (by rw [e1]; simp))⟩
    · rw [if_neg e1] at hq
      obtain ⟨e', he'⟩ := h.us q q0 q1 hq
      exact ⟨e', List.mem_append.2 (.inl he')⟩
theorem fill_L (n : Nat) : ∀ (cs : List S38) (PL : List (Int × S67)) (fr : Int) (set : List Bool) (out o : List S67), Fill n PL set out → evL n cs fr set out = some o →
    (∃ set', Fill n (PL ++ cs.flatMap putsOf) set' o) ∧ (cs.map (·.f3)).Pairwise (· < ·) ∧ (∀ c ∈ cs, fr < c.f3) ∧ ∀ c ∈ cs, (c.f4 = -1 ∧ bareB c.f2 = true) ∨ (c.f4 ≠ -1 ∧ c.f3 < c.f4)
  | [], PL, fr, set, out, o, hF, h => by
    simp only [evL, Option.some.injEq] at h
    subst h
    exact ⟨⟨set, by simpa using hF⟩, by simp, by simp, by simp⟩
  | c :: cs, PL, fr, set, out, o, hF, h => by
    simp only [evL] at h
    by_cases h1 : c.f3 ≤ fr
    · rw [if_pos h1] at h; cases h
    rw [if_neg h1] at h
    by_cases h2 : okAt n set c.f3 = true
    rotate_left
    · rw [if_neg h2] at h; cases h
    rw [if_pos h2] at h
    have hF1 := fill_put hF c.f3 (invE c) h2
    by_cases h4 : c.f4 = -1
    · rw [if_pos h4] at h
      by_cases h5 : bareB c.f2 = true
      rotate_left
      · rw [if_neg h5] at h; cases h
      rw [if_pos h5] at h
      obtain ⟨⟨s', i1⟩, i2, i3, i4⟩ := fill_L n cs _ _ _ _ o hF1 h
      refine ⟨⟨s', by simpa [putsOf, h4] using i1⟩, ?_, ?_, ?_⟩
      · rw [List.map_cons, List.pairwise_cons]
        exact ⟨fun x hx => by obtain ⟨y, hy, rfl⟩ := List.mem_map.1 hx; exact i3 y hy, i2⟩
      · intro x hx
        rcases List.mem_cons.1 hx with rfl | hx
        · omega
        · have := i3 x hx; omega
      · intro x hx
        rcases List.mem_cons.1 hx with rfl | hx
        · exact .inl ⟨h4, h5⟩
        · exact i4 x hx
    · rw [if_neg h4] at h
      by_cases h5 : c.f4 ≤ c.f3
      · rw [if_pos h5] at h; cases h
      rw [if_neg h5] at h
      by_cases h6 : okAt n (set.set c.f3.toNat true) c.f4 = true
      rotate_left
      · rw [if_neg h6] at h; cases h
      rw [if_pos h6] at h
      have hF2 := fill_put hF1 c.f4 (retE c) h6
      obtain ⟨⟨s', i1⟩, i2, i3, i4⟩ := fill_L n cs _ _ _ _ o hF2 h
      refine ⟨⟨s', by simpa [putsOf, h4] using i1⟩, ?_, ?_, ?_⟩
      · rw [List.map_cons, List.pairwise_cons]
        exact ⟨fun x hx => by obtain ⟨y, hy, rfl⟩ := List.mem_map.1 hx; exact i3 y hy, i2⟩
      · intro x hx
        rcases List.mem_cons.1 hx with rfl | hx
        · omega
        · have := i3 x hx; omega
      · intro x hx
        rcases List.mem_cons.1 hx with rfl | hx
        · exact .inr ⟨h4, by omega⟩
        · exact i4 x hx
theorem fill_start (n : Nat) : Fill n [] (List.replicate n false) (List.replicate n z67) := by
  refine ⟨by simp, by simp, by simp, fun p p0 p1 _ => ?_, fun p p0 p1 h => ?_⟩
  · unfold J67
    rw [List.getD_eq_getElem?_getD, List.getElem?_replicate]
    split <;> rfl
  · rw [rdOf_rep] at h; cases h
theorem sorted_eq : ∀ (a b : List Int), a.Pairwise (· < ·) → b.Pairwise (· < ·) → (∀ x, x ∈ a ↔ x ∈ b) → a = b
  | [], [], _, _, _ => rfl
  | [], y :: ys, _, _, h => by have := (h y).2 (by simp); simp at this
  | x :: xs, [], _, _, h => by have := (h x).1 (by simp); simp at this
  | x :: xs, y :: ys, ha, hb, h => by
    rw [List.pairwise_cons] at ha hb
    have hxy : x = y := by
      have h1 := (h x).1 (by simp)
      have h2 := (h y).2 (by simp)
      rcases List.mem_cons.1 h1 with h1 | h1
      · exact h1
      rcases List.mem_cons.1 h2 with h2 | h2
      · exact h2.symm
      have := hb.1 x h1
      have := ha.1 y h2
      omega
    subst hxy
    rw [sorted_eq xs ys ha.2 hb.2 fun z => ?_]
    constructor
    · intro hz
      rcases List.mem_cons.1 ((h z).1 (List.mem_cons_of_mem _ hz)) with rfl | h1
      · have := ha.1 z hz; omega
      · exact h1
    · intro hz
      rcases List.mem_cons.1 ((h z).2 (List.mem_cons_of_mem _ hz)) with rfl | h1
      · have := hb.1 z hz; omega
      · exact h1
end Go.Proofs.Ytagdkmcgepidoaa.P
