/- P.eventCalls_holds, part 14 of 31: the contracts of the Go functions that the law calls, its own walk, and its plain law, for every input that the statement speaks of. -/
import Derived.Test.YtagdkmcgepidoaaMCa6
import Derived.Test.YtagdkmcgepidoaaMCa10
import Derived.Test.YtagdkmcgepidoaaMCa2
import Derived.Test.YtagdkmcgepidoaaMCa3
import Derived.Test.YtagdkmcgepidoaaMCa4
import Derived.Test.YtagdkmcgepidoaaMCa12
set_option linter.unusedVariables false
set_option linter.unusedSimpArgs false
/- P1 -/
namespace Go.Proofs.Ytagdkmcgepidoaa.P
open Go.RowKit Go.Proofs.YtagdkmcgepidoaaW.PrintWords Go.Proofs.YtagdkmcgepidoaaW.PrintLast Go.Proofs.YtagdkmcgepidoaaW.PrintMore
def Ev {α : Type} (f : Nat → Option α) (v : α) : Prop := ∃ K, ∀ k, K ≤ k → f k = some v
namespace Ev
variable {α β : Type}
theorem const (v : α) : Ev (fun _ => some v) v := ⟨0, fun _ _ => rfl⟩
theorem succ {f : Nat → Option α} {v : α} (h : Ev (fun k => f (k + 1)) v) : Ev f v := by
  obtain ⟨K, h⟩ := h
  refine ⟨K + 1, fun k hk => ?_⟩
  obtain ⟨j, rfl⟩ : ∃ j, k = j + 1 := ⟨k - 1, by omega⟩
  exact h j (by omega)
theorem bind {f : Nat → Option α} {g : Nat → α → Option β} {x : α} {v : β} (h1 : Ev f x) (h2 : Ev (fun k => g k x) v) : Ev (fun k => (f k).bind (g k)) v := by
  obtain ⟨K1, h1⟩ := h1
  obtain ⟨K2, h2⟩ := h2
  refine ⟨max K1 K2, fun k hk => ?_⟩
  show (f k).bind (g k) = some v
  rw [h1 k (by omega)]
  exact h2 k (by omega)
theorem congr {f g : Nat → Option α} {v : α} (h : Ev g v) (e : ∀ k, f k = g k) : Ev f v := by
  obtain ⟨K, h⟩ := h
  exact ⟨K, fun k hk => (e k).trans (h k hk)⟩
theorem congr' {f g : Nat → Option α} {v w : α} (h : Ev g v) (ev : w = v) (e : ∀ k, f k = g k) : Ev f w := by
  subst ev
  exact h.congr e
theorem ex {f : Nat → Option α} {v : α} (h : Ev f v) : ∃ k, f k = some v := by
  obtain ⟨K, h⟩ := h
  exact ⟨K, h K (Nat.le_refl _)⟩
end Ev
theorem wrap_succ {n : Nat} (h : n ≤ 100000000) : wrap64 ((n : Int) + 1) = ((n + 1 : Nat) : Int) := by unfold wrap64; omega
theorem samePairs_nil (ps : List S70) : Ev (fun k => larchref05_SamePairs.f k ps []) ((ps.length : Int) == 0) := by
  unfold larchref05_SamePairs.f
  by_cases h : ps.length = 0
  · have : ps = [] := List.length_eq_zero_iff.1 h
    subst this
    refine Ev.succ ((Ev.const true).congr fun k => ?_)
    simp [larchref05_SamePairs.l0]
  · refine (Ev.const false).congr' (by rw [beq_eq_false_iff_ne]; omega) fun k => ?_
    rw [if_neg (by simp only [List.length_nil]; omega)]
theorem sameRet_zero (n : S36) : Ev (fun k => larchref05_SameRet.f k n.f0 n.f1 n.f2 n.f3 false 0 0 []) (bareB n) := by
  unfold larchref05_SameRet.f bareB
  cases h0 : n.f0 with
  | true => exact (Ev.const false).congr' (by simp) fun k => by simp
  | false =>
    by_cases h1 : n.f1 = 0
    · by_cases h2 : n.f2 = 0
      · refine Ev.congr' (g := fun k => (larchref05_SamePairs.f k n.f3 []).bind fun t => some t) (v := ((n.f3.length : Int) == 0)) (Ev.bind (samePairs_nil n.f3) (Ev.const _)) (by simp [h1, h2]) fun k => ?_
        simp [h1, h2]
      · exact (Ev.const false).congr' (by simp [h2]) fun k => by simp [h1, h2]
    · exact (Ev.const false).congr' (by simp [h1]) fun k => by simp [h1]
theorem rdOf_set (x : List Bool) (a i : Int) (v : Bool) (ha : 0 ≤ a ∧ a < x.length) (hi : 0 ≤ i) : rdOf false (x.set a.toNat v) i = if i = a then v else rdOf false x i := by
  unfold rdOf
  rw [List.getD_eq_getElem?_getD, List.getElem?_set]
  by_cases e : i = a
  · subst e
    rw [if_pos rfl, if_pos (by omega), if_pos rfl]
    rfl
  · rw [if_neg (by omega), if_neg e, List.getD_eq_getElem?_getD]
theorem rd33_set (x : List S33) (a i : Int) (v : S33) (ha : 0 ≤ a ∧ a < x.length) (hi : 0 ≤ i) : J33 (x.set a.toNat v) i = if i = a then v else J33 x i := by
  unfold J33
  rw [List.getD_eq_getElem?_getD, List.getElem?_set]
  by_cases e : i = a
  · subst e
    rw [if_pos rfl, if_pos (by omega), if_pos rfl]
    rfl
  · rw [if_neg (by omega), if_neg e, List.getD_eq_getElem?_getD]
theorem rd_set (x : List Int) (a : Int) (i v : Int) (ha : 0 ≤ a ∧ a < x.length) (hi : 0 ≤ i) : rd (x.set a.toNat v) i = if i = a then v else rd x i := by
  unfold rd
  rw [List.getD_eq_getElem?_getD, List.getElem?_set]
  by_cases e : i = a
  · subst e
    rw [if_pos rfl, if_pos (by omega), if_pos rfl]
    rfl
  · rw [if_neg (by omega), if_neg e, List.getD_eq_getElem?_getD]
def KInv (op : List Bool) (ops : List S33) : Prop := ∀ i : Int, 0 ≤ i → i < 64 → rdOf false op i = true → 1 ≤ (J33 ops i).f0 ∧ (J33 ops i).f0 ≤ 9
theorem opSame_iff (a b : S33) : opSame a b = true ↔ a = b := by
  obtain ⟨a0, a1, a2, a3⟩ := a
  obtain ⟨b0, b1, b2, b3⟩ := b
  simp [opSame]
theorem notSame (a b : S33) : (!(a.f0 == b.f0) || (!(a.f1 == b.f1) || (!(a.f2 == b.f2) || (!(a.f3 == b.f3))))) = !opSame a b := by
  simp [opSame]
theorem chk_both (l0 : List S67) (hl : l0.length ≤ 100000) : ∀ d (j : Nat) (op : List Bool) (ops : List S33), j + d = l0.length → op.length = 64 → ops.length = 64 → KInv op ops → Ev (fun k => larchref05_Check.l0 k l0 op ops (j : Int)) (chkGo l0 d j op ops)
  | 0, j, op, ops, hd, _, _, _ => by
    refine Ev.succ ((Ev.const 0).congr fun k => ?_)
    simp only [larchref05_Check.l0]
    rw [if_neg (by omega)]
  | d + 1, j, op, ops, hd, ho, hs, hK => by
    obtain ⟨e, he⟩ : ∃ e, e = J67 l0 (j : Int) := ⟨_, rfl⟩
    have j0 : ((j : Int) < (l0.length : Int)) := by omega
    have j1 : (0 : Int) ≤ (j : Int) := by omega
    have bad : ∀ (f : Nat → Option Int), (∀ k, larchref05_Check.l0 (k + 1) l0 op ops (j : Int) = larchref05_Check.j1 k l0 op ops (j : Int) true e.f0 e.f1 e.f2.f0 e.f2.f1 e.f2.f2 e.f2.f3 e.f3.f0 e.f3.f1 e.f3.f2 e.f3.f3) → Ev (fun k => larchref05_Check.l0 k l0 op ops (j : Int)) 3 := by
      intro _ h
      refine Ev.succ (Ev.succ ((Ev.const 3).congr fun k => ?_))
      rw [h (k + 1)]
      simp only [larchref05_Check.j1, if_true]
    simp only [chkGo, ← he]
    by_cases c1 : e.f0 < 0
    · rw [if_pos (.inl c1)]
      refine bad (fun _ => none) fun k => ?_
      simp only [larchref05_Check.l0, ← he]
      rw [if_pos j0, if_pos j1, if_pos c1]
    by_cases c2 : e.f0 ≥ 64
    · rw [if_pos (.inr (.inl c2))]
      refine bad (fun _ => none) fun k => ?_
      simp only [larchref05_Check.l0, ← he]
      rw [if_pos j0, if_pos j1, if_neg c1, if_pos c2]
    by_cases k1 : e.f2.f0 < 1
    · have h3 : (if e.f0 < 0 ∨ e.f0 ≥ 64 ∨ e.f1 ≠ rdOf false op e.f0 then (3 : Int) else if evOk e ops = true then chkGo l0 d (j + 1) (op.set e.f0.toNat (!e.f1)) (ops.set e.f0.toNat e.f2) else 3) = 3 := by
        by_cases c3 : e.f1 ≠ rdOf false op e.f0
        · rw [if_pos (.inr (.inr c3))]
        · rw [if_neg (by simp only [c1, c2, c3, false_or, not_false_eq_true]), if_neg]
          unfold evOk
          cases hr : e.f1 with
          | true =>
            have := hK e.f0 (by omega) (by omega) (by rw [← Decidable.not_not.1 c3]; exact hr)
            simp only [if_true]
            intro hh
            rw [opSame_iff] at hh
            rw [← hh] at this
            omega
          | false =>
            simp
            omega
      rw [h3]
      refine bad (fun _ => none) fun k => ?_
      simp only [larchref05_Check.l0, ← he]
      rw [if_pos j0, if_pos j1, if_neg c1, if_neg c2, if_pos k1]
    by_cases k2 : e.f2.f0 > 9
    · have h3 : (if e.f0 < 0 ∨ e.f0 ≥ 64 ∨ e.f1 ≠ rdOf false op e.f0 then (3 : Int) else if evOk e ops = true then chkGo l0 d (j + 1) (op.set e.f0.toNat (!e.f1)) (ops.set e.f0.toNat e.f2) else 3) = 3 := by
        by_cases c3 : e.f1 ≠ rdOf false op e.f0
        · rw [if_pos (.inr (.inr c3))]
        · rw [if_neg (by simp only [c1, c2, c3, false_or, not_false_eq_true]), if_neg]
          unfold evOk
          cases hr : e.f1 with
          | true =>
            have := hK e.f0 (by omega) (by omega) (by rw [← Decidable.not_not.1 c3]; exact hr)
            simp only [if_true]
            intro hh
            rw [opSame_iff] at hh
            rw [← hh] at this
            omega
          | false =>
            simp
            omega
      rw [h3]
      refine bad (fun _ => none) fun k => ?_
      simp only [larchref05_Check.l0, ← he]
      rw [if_pos j0, if_pos j1, if_neg c1, if_neg c2, if_neg k1, if_pos k2]
    have step : ∀ k, larchref05_Check.l0 (k + 1) l0 op ops (j : Int) = larchref05_Check.j1 k l0 op ops (j : Int) (e.f1 != rdOf false op e.f0) e.f0 e.f1 e.f2.f0 e.f2.f1 e.f2.f2 e.f2.f3 e.f3.f0 e.f3.f1 e.f3.f2 e.f3.f3 := by
      intro k
      simp only [larchref05_Check.l0, ← he]
      rw [if_pos j0, if_pos j1, if_neg c1, if_neg c2, if_neg k1, if_neg k2, if_pos (by omega), if_pos (by omega)]
    by_cases c3 : e.f1 ≠ rdOf false op e.f0
    · rw [if_pos (.inr (.inr c3))]
      have hb : (e.f1 != rdOf false op e.f0) = true := by simpa using c3
      refine bad (fun _ => none) fun k => ?_
      rw [step, hb]
    have c3' := Decidable.not_not.1 c3
    have hb : (e.f1 != rdOf false op e.f0) = false := by simpa using c3'
    rw [if_neg (by simp only [c1, c2, c3, false_or, not_false_eq_true])]
    rw [hb] at step
    have hKn : evOk e ops = true → KInv (op.set e.f0.toNat (!e.f1)) (ops.set e.f0.toNat e.f2) := by
      intro hok i i0 i1
      rw [rdOf_set _ _ _ _ (by omega) i0, rd33_set _ _ _ _ (by omega) i0]
      by_cases hi : i = e.f0
      · rw [if_pos hi, if_pos hi]
        intro _
        omega
      · rw [if_neg hi, if_neg hi]
        exact hK i i0 i1
    cases hr : e.f1 with
    | true =>
      by_cases hs2 : opSame e.f2 (J33 ops e.f0) = true
      · have hok : evOk e ops = true := by unfold evOk; rw [if_pos hr]; exact hs2
        rw [if_pos hok]
        have ih := chk_both l0 hl d (j + 1) (op.set e.f0.toNat (!e.f1)) (ops.set e.f0.toNat e.f2) (by omega) (by simpa using ho) (by simpa using hs) (hKn hok)
        rw [hr] at ih
        refine Ev.succ (Ev.succ (ih.congr fun k => ?_))
        rw [step (k + 1)]
        simp only [larchref05_Check.j1, hr, notSame, hs2]
        rw [if_neg (by simp), if_pos trivial, if_pos (by omega), if_pos (by omega), if_neg (by simp), if_pos (by omega), wrap_succ (by omega)]
      · have hok : ¬ (evOk e ops = true) := by unfold evOk; rw [if_pos hr]; exact hs2
        rw [if_neg hok]
        have hs3 : opSame e.f2 (J33 ops e.f0) = false := by simpa using hs2
        refine Ev.succ (Ev.succ ((Ev.const 3).congr fun k => ?_))
        rw [step (k + 1)]
        simp only [larchref05_Check.j1, hr, notSame, hs3]
        rw [if_neg (by simp), if_pos trivial, if_pos (by omega), if_pos (by omega), if_pos (by simp)]
    | false =>
      have hev : evOk e ops = bareB e.f3 := by
        unfold evOk
        rw [if_neg (by simp [hr]), decide_eq_true (by omega), decide_eq_true (by omega)]
        simp
      rw [hev]
      have hret := sameRet_zero e.f3
      have main : Ev (fun k => (larchref05_SameRet.f k e.f3.f0 e.f3.f1 e.f3.f2 e.f3.f3 false 0 0 []).bind fun t157 => if t157 = true then larchref05_Check.l0 k l0 (op.set e.f0.toNat (!e.f1)) (ops.set e.f0.toNat e.f2) (((j + 1 : Nat) : Int)) else some 3) (if bareB e.f3 = true then chkGo l0 d (j + 1) (op.set e.f0.toNat (!e.f1)) (ops.set e.f0.toNat e.f2) else 3) := by
        refine Ev.bind hret ?_
        by_cases hbb : bareB e.f3 = true
        · simp only [if_pos hbb]
          exact chk_both l0 hl d (j + 1) (op.set e.f0.toNat (!e.f1)) (ops.set e.f0.toNat e.f2) (by omega) (by simpa using ho) (by simpa using hs) (hKn (by rw [hev]; exact hbb))
        · simp only [if_neg hbb]
          exact Ev.const 3
      rw [hr] at main
      refine Ev.succ (Ev.succ (main.congr fun k => ?_))
      rw [step (k + 1)]
      simp only [larchref05_Check.j1, hr]
      rw [if_neg (by simp), if_neg (by simp)]
      congr 1
      funext t
      cases t with
      | false => rfl
      | true =>
        simp only [reduceIte]
        rw [if_pos (by omega), if_pos (by omega), if_pos (by omega), wrap_succ (by omega)]
theorem check_both (l0 : List S67) : ∃ c : Int, event_Check.f l0 = some c ∧ Ev (fun k => larchref05_Check.f k l0) c ∧ (c = 0 → l0.length ≤ 100000 ∧ chkGo l0 l0.length 0 (List.replicate 64 false) (List.replicate 64 z33) = 0) := by
  by_cases h : l0.length > 100000
  · refine ⟨2, ?_, (Ev.const 2).congr fun k => ?_, fun h => by omega⟩
    · unfold event_Check.f; rw [if_pos h]
    · unfold larchref05_Check.f; rw [if_pos (by omega)]
  · refine ⟨chkGo l0 l0.length 0 (List.replicate 64 false) (List.replicate 64 z33), ?_, ?_, fun h0 => ⟨by omega, h0⟩⟩
    · unfold event_Check.f; rw [if_neg h]
    · refine (chk_both l0 (by omega) l0.length 0 (List.replicate 64 false) (List.replicate 64 z33) (by omega) (by simp) (by simp) (fun i _ _ hi => ?_)).congr fun k => ?_
      · unfold rdOf at hi
        rw [List.getD_eq_getElem?_getD, List.getElem?_replicate] at hi
        split at hi <;> simp at hi
      · unfold larchref05_Check.f
        rw [if_neg (by omega), if_pos (by decide), if_pos (by decide)]
        rfl
def conv (x : S38) : S76 := ⟨x.f0, x.f1, x.f2, x.f3, x.f4⟩
theorem rd76_map (out : List S38) (i : Int) (hi : 0 ≤ i ∧ i < out.length) : J76 (out.map conv) i = conv (J38 out i) := by
  unfold J76 J38
  rw [List.getD_eq_getElem?_getD, List.getD_eq_getElem?_getD, List.getElem?_map, List.getElem?_eq_getElem (by omega)]
  rfl
theorem rd76_set (x : List S76) (i : Int) (v : S76) (hi : 0 ≤ i ∧ i < x.length) : J76 (x.set i.toNat v) i = v := by
  unfold J76
  rw [List.getD_eq_getElem?_getD, List.getElem?_set_self (by omega)]
  rfl
structure COk (l0 : List S67) (out : List S38) : Prop where
  len : out.length ≤ l0.length
  tw : ∀ x ∈ out, x.f4 = -1 ∨ 0 ≤ x.f4
theorem calls_both (l0 : List S67) (hl : l0.length ≤ 100000) (hp : ∀ e ∈ l0, e.f3.f3.length ≤ 1048576) : ∀ d (j : Nat) (op : List Bool) (ops : List S33) (last : List Int) (out : List S38), j + d = l0.length → op.length = 64 → ops.length = 64 → last.length = 64 → chkGo l0 d j op ops = 0 →
    (∀ i : Int, 0 ≤ i → i < 64 → rdOf false op i = true → 0 ≤ rd last i ∧ rd last i < out.length) → out.length ≤ j → (∀ x ∈ out, x.f4 = -1 ∨ 0 ≤ x.f4) →
    ∃ r, callsGo l0 d j last out = some r ∧ Ev (fun k => larchref05_calls.l0 k l0 (out.map conv) last (j : Int)) (r.map conv) ∧ COk l0 r
  | 0, j, op, ops, last, out, hd, _, _, _, _, _, ho, ht => by
    refine ⟨out, rfl, Ev.succ ((Ev.const _).congr fun k => ?_), by omega, ht⟩
    simp only [larchref05_calls.l0]
    rw [if_neg (by omega)]
  | d + 1, j, op, ops, last, out, hd, h1, h2, h3, hc, hi, ho, ht => by
    obtain ⟨e, he⟩ : ∃ e, e = J67 l0 (j : Int) := ⟨_, rfl⟩
    have hin : e ∈ l0 := by
      rw [he]
      unfold J67
      rw [Int.toNat_natCast, List.getD_eq_getElem?_getD, List.getElem?_eq_getElem (by omega)]
      exact List.getElem_mem _
    have hpe := hp e hin
    simp only [chkGo, ← he] at hc
    split at hc
    · omega
    rename_i hc1
    split at hc
    rotate_left
    · omega
    have f0 : 0 ≤ e.f0 ∧ e.f0 < 64 := by omega
    have hop : e.f1 = rdOf false op e.f0 := by
      refine Decidable.byContradiction fun hh => hc1 (.inr (.inr hh))
    simp only [callsGo, ← he]
    rw [if_pos f0]
    by_cases hr : e.f1 = true
    · obtain ⟨l0', l1'⟩ := hi e.f0 f0.1 f0.2 (by rw [← hop]; exact hr)
      rw [if_pos hr, if_pos ⟨⟨l0', l1'⟩, by omega⟩]
      obtain ⟨q, hq⟩ : ∃ q, q = rd last e.f0 := ⟨_, rfl⟩
      rw [← hq] at l0' l1' ⊢
      obtain ⟨r, ha, hb, hk⟩ := calls_both l0 hl hp d (j + 1) (op.set e.f0.toNat (!e.f1)) (ops.set e.f0.toNat e.f2) last (out.set q.toNat ⟨(J38 out q).f0, (J38 out q).f1, e.f3, (J38 out q).f3, (j : Int)⟩) (by omega) (by simpa using h1) (by simpa using h2) h3 hc (fun i i0 i1 hh => by
        rw [rdOf_set _ _ _ _ (by omega) i0] at hh
        by_cases e1 : i = e.f0
        · rw [if_pos e1, hr] at hh; simp at hh
        · rw [if_neg e1] at hh
          rw [List.length_set]
          exact hi i i0 i1 hh) (by rw [List.length_set]; omega) (fun x hx => by
        rcases List.mem_or_eq_of_mem_set hx with h | h
        · exact ht x h
        · rw [h]; right; simp)
      refine ⟨r, ha, Ev.succ (hb.congr fun k => ?_), hk⟩
      simp only [larchref05_calls.l0, ← he]
      rw [if_pos (by omega), if_pos (by omega), if_pos hr, if_pos f0.1, if_pos (by omega), ← hq, if_pos l0', if_pos (by simpa using l1')]
      simp only [Option.bind_some]
      rw [rd76_set _ _ _ (by simp; omega), rd76_map out q ⟨l0', l1'⟩]
      unfold larchref05_CopyRet.f
      simp only [Option.bind_some, List.length_nil, List.nil_append]
      rw [if_pos (by omega)]
      simp only [Option.bind_some]
      rw [List.set_set, List.map_set, wrap_succ (by omega)]
      rfl
    · have hr' : e.f1 = false := by simpa using hr
      rw [if_neg hr, if_pos (by omega)]
      obtain ⟨r, ha, hb, hk⟩ := calls_both l0 hl hp d (j + 1) (op.set e.f0.toNat (!e.f1)) (ops.set e.f0.toNat e.f2) (last.set e.f0.toNat (out.length : Int)) (out ++ [⟨e.f0, e.f2, z36, (j : Int), -1⟩]) (by omega) (by simpa using h1) (by simpa using h2) (by simpa using h3) hc (fun i i0 i1 hh => by
        rw [rdOf_set _ _ _ _ (by omega) i0] at hh
        rw [rd_set _ _ _ _ (by omega) i0, List.length_append, List.length_singleton]
        by_cases e1 : i = e.f0
        · rw [if_pos e1]; omega
        · rw [if_neg e1] at hh
          rw [if_neg e1]
          have := hi i i0 i1 hh
          omega) (by rw [List.length_append, List.length_singleton]; omega) (fun x hx => by
        rcases List.mem_append.1 hx with h | h
        · exact ht x h
        · simp at h
          rw [h]; left; rfl)
      refine ⟨r, ha, Ev.succ (hb.congr fun k => ?_), hk⟩
      simp only [larchref05_calls.l0, ← he]
      rw [if_pos (by omega), if_pos (by omega), if_neg hr, if_pos f0.1, if_pos (by omega), if_pos (by simp; omega), List.map_append, List.length_map, wrap_succ (by omega)]
      rfl
theorem Calls_both (l0 : List S67) (hp : ∀ e ∈ l0, e.f3.f3.length ≤ 1048576) : ∃ (r : List S38) (c : Int), event_Calls.f l0 = some (r, c) ∧ Ev (fun k => larchref05_Calls.f k l0) (r.map conv, c) ∧ event_Check.f l0 = some c ∧ Ev (fun k => larchref05_Check.f k l0) c ∧ (c = 0 → l0.length ≤ 100000 ∧ COk l0 r) := by
  obtain ⟨c, hc, hR, h0⟩ := check_both l0
  by_cases e0 : c = 0
  · subst e0
    obtain ⟨hl, hchk⟩ := h0 rfl
    obtain ⟨r, ha, hb, hk⟩ := calls_both l0 hl hp l0.length 0 (List.replicate 64 false) (List.replicate 64 z33) (List.replicate 64 0) [] (by omega) (by simp) (by simp) (by simp) hchk (fun i _ _ hi => by
      unfold rdOf at hi
      rw [List.getD_eq_getElem?_getD, List.getElem?_replicate] at hi
      split at hi <;> simp at hi) (by simp) (by simp)
    refine ⟨r, 0, ?_, ?_, hc, hR, fun _ => ⟨hl, hk⟩⟩
    · unfold event_Calls.f event_calls.f
      rw [hc]
      simp only [Option.bind_some, if_true]
      rw [ha]
      rfl
    · unfold larchref05_Calls.f
      refine Ev.bind hR ?_
      simp only [if_true]
      refine Ev.bind (x := r.map conv) (hb.congr fun k => ?_) (Ev.const _)
      unfold larchref05_calls.f
      rw [if_pos (by decide)]
      rfl
  · refine ⟨[], c, ?_, ?_, hc, hR, fun h => absurd h e0⟩
    · unfold event_Calls.f
      rw [hc]
      simp only [Option.bind_some, if_neg e0]
    · unfold larchref05_Calls.f
      refine Ev.bind hR ?_
      simp only [if_neg e0]
      exact Ev.const _
end Go.Proofs.Ytagdkmcgepidoaa.P
