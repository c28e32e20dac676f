/- P.eventCalls_holds, part 28 of 31: the contracts of the Go functions that the law calls, its own walk, and its plain law, for every input that the statement speaks of. -/
import Derived.Test.YtagdkmcgepidoaaMCa22
import Derived.Test.YtagdkmcgepidoaaMCa14
import Derived.Test.YtagdkmcgepidoaaMCa23
import Derived.Test.YtagdkmcgepidoaaMCa11
import Derived.Test.YtagdkmcgepidoaaMCa7
import Derived.Test.YtagdkmcgepidoaaMCa9
import Derived.Test.YtagdkmcgepidoaaMCa10
import Derived.Test.YtagdkmcgepidoaaMCa4
import Derived.Test.YtagdkmcgepidoaaMCa12
import Derived.Test.YtagdkmcgepidoaaMCa21
import Derived.Test.YtagdkmcgepidoaaMCa25
import Derived.Test.YtagdkmcgepidoaaMCa20
import Derived.Test.YtagdkmcgepidoaaMCa26
set_option linter.unusedVariables false
set_option linter.unusedSimpArgs false
/- P13 -/
namespace Go.Proofs.Ytagdkmcgepidoaa.P
open Go.RowKit Go.Proofs.YtagdkmcgepidoaaW.PrintWords Go.Proofs.YtagdkmcgepidoaaW.PrintLast Go.Proofs.YtagdkmcgepidoaaW.PrintMore
theorem chkL_cons (e : S67) (es : List S67) (op : List Bool) (ops : List S33) : chkL (e :: es) op ops = 0 ↔ (0 ≤ e.f0 ∧ e.f0 < 64 ∧ e.f1 = rdOf false op e.f0 ∧ evOk e ops = true) ∧ chkL es (op.set e.f0.toNat (!e.f1)) (ops.set e.f0.toNat e.f2) = 0 := by
  constructor
  · intro h
    unfold chkL at h
    split at h
    · cases h
    · rename_i hc
      split at h
      · rename_i hv
        have hc' := not_or.mp hc
        have hc2 := not_or.mp hc'.2
        exact ⟨⟨by omega, by omega, Decidable.not_not.mp hc2.2, hv⟩, h⟩
      · cases h
  · rintro ⟨⟨h1, h2, h3, h4⟩, h5⟩
    unfold chkL
    rw [if_neg, if_pos h4]
    · exact h5
    · rintro (h | h | h)
      · omega
      · omega
      · exact h h3
end Go.Proofs.Ytagdkmcgepidoaa.P
/- P14 -/
namespace Go.Proofs.Ytagdkmcgepidoaa.P
open Go.RowKit Go.Proofs.YtagdkmcgepidoaaW.PrintWords Go.Proofs.YtagdkmcgepidoaaW.PrintLast Go.Proofs.YtagdkmcgepidoaaW.PrintMore
theorem bare_z36 (n : S36) (h : bareB n = true) : n = z36 := by
  obtain ⟨a, b, c, d⟩ := n
  unfold bareB at h
  simp at h
  obtain ⟨rfl, rfl, rfl, h⟩ := h
  have : d = [] := by
    cases d with
    | nil => rfl
    | cons x xs => simp at h
  subst this
  rfl
structure Cont (h : List S67) (out : List S38) : Prop where
  iv : ∀ q : Int, 0 ≤ q → q < out.length → J67 h (J38 out q).f3 = invE (J38 out q)
  rt : ∀ q : Int, 0 ≤ q → q < out.length → (J38 out q).f4 ≠ -1 → J67 h (J38 out q).f4 = retE (J38 out q)
  pn : ∀ q : Int, 0 ≤ q → q < out.length → (J38 out q).f4 = -1 → (J38 out q).f2 = z36
theorem cont_go (l0 : List S67) : ∀ d (j : Nat) (op : List Bool) (ops : List S33) (last : List Int) (out r : List S38), op.length = 64 → ops.length = 64 → last.length = 64 → chkGo l0 d j op ops = 0 →
    (∀ t : Int, 0 ≤ t → t < 64 → rdOf false op t = true → (0 ≤ rd last t ∧ rd last t < out.length) ∧ (J38 out (rd last t)).f0 = t ∧ (J38 out (rd last t)).f1 = J33 ops t) →
    Cont l0 out → callsGo l0 d j last out = some r → Cont l0 r
  | 0, j, op, ops, last, out, r, _, _, _, _, _, hS, hr => by
    simp only [callsGo, Option.some.injEq] at hr
    subst hr
    exact hS
  | d + 1, j, op, ops, last, out, r, h1, h3, h2, hc, hop, hS, hr => by
    obtain ⟨hf, hf1, hv, hc'⟩ := chk_step hc
    obtain ⟨e, he⟩ : ∃ e, e = J67 l0 (j : Int) := ⟨_, rfl⟩
    simp only [callsGo, ← he] at hr
    rw [← he] at hf hf1 hv hc'
    rw [if_pos hf] at hr
    by_cases hb : e.f1 = true
    · obtain ⟨hq, hq0, hq1⟩ := hop e.f0 hf.1 hf.2 (by rw [← hf1]; exact hb)
      rw [if_pos hb] at hr
      split at hr
      rotate_left
      · cases hr
      obtain ⟨q, hqe⟩ : ∃ q, q = rd last e.f0 := ⟨_, rfl⟩
      rw [← hqe] at hq hq0 hq1 hr
      unfold evOk at hv
      rw [if_pos hb, opSame_iff] at hv
      obtain ⟨v, hv'⟩ : ∃ v : S38, v = ⟨(J38 out q).f0, (J38 out q).f1, e.f3, (J38 out q).f3, (j : Int)⟩ := ⟨_, rfl⟩
      rw [← hv'] at hr
      have rs : ∀ i : Int, 0 ≤ i → J38 (out.set q.toNat v) i = if i = q then v else J38 out i := fun i hi => rd38_set out q i v hq hi
      refine cont_go l0 d (j + 1) _ _ last _ r (by simpa using h1) (by simpa using h3) h2 hc' (fun t t0 t1 ht => ?_) ⟨fun i i0 i1 => ?_, fun i i0 i1 => ?_, fun i i0 i1 => ?_⟩ hr
      · rw [rdOf_set _ _ _ _ (by omega) t0] at ht
        by_cases e1 : t = e.f0
        · rw [if_pos e1, hb] at ht; cases ht
        · rw [if_neg e1] at ht
          obtain ⟨k1, k2, k3⟩ := hop t t0 t1 ht
          have hne : rd last t ≠ q := fun h => e1 (by rw [← k2, h, hq0])
          rw [rs _ k1.1, if_neg hne, rd33_set _ _ _ _ (by omega) t0, if_neg e1]
          exact ⟨by simpa using k1, k2, k3⟩
      · rw [rs i i0]
        by_cases e1 : i = q
        · rw [if_pos e1, hv']
          exact hS.iv q hq.1 hq.2
        · rw [if_neg e1]
          exact hS.iv i i0 (by simpa using i1)
      · rw [rs i i0]
        by_cases e1 : i = q
        · rw [if_pos e1, hv']
          intro _
          show J67 l0 (j : Int) = ⟨(J38 out q).f0, true, (J38 out q).f1, e.f3⟩
          rw [hq0, hq1, ← he, ← hb]
          obtain ⟨e0, e1', e2, e3⟩ := e
          simp only at hv ⊢
          rw [hv]
        · rw [if_neg e1]
          exact hS.rt i i0 (by simpa using i1)
      · rw [rs i i0]
        by_cases e1 : i = q
        · rw [if_pos e1, hv']
          intro h
          simp only at h
          omega
        · rw [if_neg e1]
          exact hS.pn i i0 (by simpa using i1)
    · have hb' : e.f1 = false := by simpa using hb
      rw [if_neg hb] at hr
      split at hr
      rotate_left
      · cases hr
      unfold evOk at hv
      rw [if_neg hb] at hv
      simp only [Bool.and_eq_true] at hv
      have hz := bare_z36 _ hv.2.2
      obtain ⟨v, hv'⟩ : ∃ v : S38, v = ⟨e.f0, e.f2, z36, (j : Int), -1⟩ := ⟨_, rfl⟩
      rw [← hv'] at hr
      have ra : ∀ i : Int, 0 ≤ i ∧ i ≤ out.length → J38 (out ++ [v]) i = if i = out.length then v else J38 out i := fun i hi => rd38_app out v i hi
      refine cont_go l0 d (j + 1) _ _ _ _ r (by simpa using h1) (by simpa using h3) (by simpa using h2) hc' (fun t t0 t1 ht => ?_) ⟨fun i i0 i1 => ?_, fun i i0 i1 => ?_, fun i i0 i1 => ?_⟩ hr
      · rw [rdOf_set _ _ _ _ (by omega) t0] at ht
        rw [rd_set _ _ _ _ (by omega) t0, rd33_set _ _ _ _ (by omega) t0]
        by_cases e1 : t = e.f0
        · rw [if_pos e1, if_pos e1, ra _ ⟨by omega, by omega⟩, if_pos rfl, hv']
          exact ⟨⟨by omega, by rw [List.length_append, List.length_singleton]; omega⟩, e1.symm, rfl⟩
        · rw [if_neg e1] at ht
          rw [if_neg e1, if_neg e1]
          obtain ⟨k1, k2, k3⟩ := hop t t0 t1 ht
          rw [ra _ ⟨k1.1, by omega⟩, if_neg (by omega)]
          exact ⟨⟨k1.1, by simp; omega⟩, k2, k3⟩
      · simp only [List.length_append, List.length_singleton] at i1
        rw [ra _ ⟨i0, by omega⟩]
        by_cases e1 : i = out.length
        · rw [if_pos e1, hv']
          show J67 l0 (j : Int) = ⟨e.f0, false, e.f2, z36⟩
          rw [← he, ← hb', ← hz]
        · rw [if_neg e1]
          exact hS.iv i i0 (by omega)
      · simp only [List.length_append, List.length_singleton] at i1
        rw [ra _ ⟨i0, by omega⟩]
        by_cases e1 : i = out.length
        · rw [if_pos e1, hv']
          intro h
          exact absurd rfl h
        · rw [if_neg e1]
          exact hS.rt i i0 (by omega)
      · simp only [List.length_append, List.length_singleton] at i1
        rw [ra _ ⟨i0, by omega⟩]
        by_cases e1 : i = out.length
        · rw [if_pos e1, hv']
          intro _
          rfl
        · rw [if_neg e1]
          exact hS.pn i i0 (by omega)
def putsOf (c : S38) : List (Int × S67) := (c.f3, invE c) :: if c.f4 = -1 then [] else [(c.f4, retE c)]
def evL (n : Nat) : List S38 → Int → List Bool → List S67 → Option (List S67)
  | [], _, _, out => some out
  | c :: cs, fr, set, out =>
    if c.f3 ≤ fr then none
    else if okAt n set c.f3 = true then
      (if c.f4 = -1 then (if bareB c.f2 = true then evL n cs c.f3 (set.set c.f3.toNat true) (out.set c.f3.toNat (invE c)) else none)
      else if c.f4 ≤ c.f3 then none
      else if okAt n (set.set c.f3.toNat true) c.f4 = true then evL n cs c.f3 ((set.set c.f3.toNat true).set c.f4.toNat true) ((out.set c.f3.toNat (invE c)).set c.f4.toNat (retE c))
      else none)
    else none
theorem drop38 (l : List S38) (j : Nat) (h : j < l.length) : l.drop j = J38 l (j : Int) :: l.drop (j + 1) := by
  rw [List.drop_eq_getElem_cons h]
  congr 1
  unfold J38
  rw [Int.toNat_natCast, List.getD_eq_getElem?_getD, List.getElem?_eq_getElem h]
  rfl
theorem evGo_L (cs : List S38) (n : Nat) : ∀ d (j : Nat) (fr : Int) (set : List Bool) (out : List S67), j + d = cs.length → evGo cs n d j fr set out = evL n (cs.drop j) fr set out
  | 0, j, fr, set, out, h => by rw [List.drop_eq_nil_of_le (by omega)]; rfl
  | d + 1, j, fr, set, out, h => by
    rw [drop38 cs j (by omega)]
    unfold evGo evL
    rw [evGo_L cs n d (j + 1) _ _ _ (by omega), evGo_L cs n d (j + 1) _ _ _ (by omega)]
structure Fill (n : Nat) (PL : List (Int × S67)) (set : List Bool) (out : List S67) : Prop where
  ls : set.length = n
  lo : out.length = n
  pt : ∀ x ∈ PL, (0 ≤ x.1 ∧ x.1 < n) ∧ rdOf false set x.1 = true ∧ J67 out x.1 = x.2
  un : ∀ p : Int, 0 ≤ p → p < n → rdOf false set p = false → J67 out p = z67
  us : ∀ p : Int, 0 ≤ p → p < n → rdOf false set p = true → ∃ e, (p, e) ∈ PL
theorem rd67_set (x : List S67) (a i : Int) (v : S67) (ha : 0 ≤ a ∧ a < x.length) (hi : 0 ≤ i) : J67 (x.set a.toNat v) i = if i = a then v else J67 x i := by
  unfold J67
  rw [List.getD_eq_getElem?_getD, List.getD_eq_getElem?_getD]
  by_cases e : i = a
  · rw [if_pos e, e, List.getElem?_set_self (by omega)]
    rfl
  · rw [if_neg e, List.getElem?_set_ne (by omega)]
theorem fill_put {n : Nat} {PL : List (Int × S67)} {set : List Bool} {out : List S67} (h : Fill n PL set out) (p : Int) (e : S67) (hk : okAt n set p = true) : Fill n (PL ++ [(p, e)]) (set.set p.toNat true) (out.set p.toNat e) := by
  rw [okAt_iff] at hk
  obtain ⟨⟨p0, p1⟩, hp⟩ := hk
  have hs : ∀ i : Int, 0 ≤ i → rdOf false (set.set p.toNat true) i = if i = p then true else rdOf false set i := fun i hi => rdOf_set set p i true ⟨p0, by rw [h.ls]; exact p1⟩ hi
  have ho : ∀ i : Int, 0 ≤ i → J67 (out.set p.toNat e) i = if i = p then e else J67 out i := fun i hi => rd67_set out p i e ⟨p0, by rw [h.lo]; exact p1⟩ hi
  refine ⟨by simpa using h.ls, by simpa using h.lo, fun x hx => ?_, fun q q0 q1 hq => ?_, fun q q0 q1 hq => ?_⟩
  · rcases List.mem_append.1 hx with hx | hx
    · obtain ⟨h1, h2, h3⟩ := h.pt x hx
      have hne : x.1 ≠ p := fun he => by rw [he, hp] at h2; cases h2
      rw [hs _ h1.1, ho _ h1.1, if_neg hne, if_neg hne]
      exact ⟨h1, h2, h3⟩
    · simp only [List.mem_singleton] at hx
      subst hx
      rw [hs _ p0, ho _ p0, if_pos rfl, if_pos rfl]
      exact ⟨⟨p0, p1⟩, rfl, rfl⟩
  · rw [hs _ q0] at hq
    by_cases e1 : q = p
    · rw [if_pos e1] at hq; cases hq
    · rw [if_neg e1] at hq
      rw [ho _ q0, if_neg e1]
      exact h.un q q0 q1 hq
  · rw [hs _ q0] at hq
    by_cases e1 : q = p
    · exact ⟨e, List.mem_append.2 (.inr (by rw [e1]; simp))⟩
    · rw [if_neg e1] at hq
      obtain ⟨e', he'⟩ := h.us q q0 q1 hq
      exact ⟨e', List.mem_append.2 (.inl he')⟩
theorem fill_L (n : Nat) : ∀ (cs : List S38) (PL : List (Int × S67)) (fr : Int) (set : List Bool) (out o : List S67), Fill n PL set out → evL n cs fr set out = some o →
    (∃ set', Fill n (PL ++ cs.flatMap putsOf) set' o) ∧ (cs.map (·.f3)).Pairwise (· < ·) ∧ (∀ c ∈ cs, fr < c.f3) ∧ ∀ c ∈ cs, (c.f4 = -1 ∧ bareB c.f2 = true) ∨ (c.f4 ≠ -1 ∧ c.f3 < c.f4)
  | [], PL, fr, set, out, o, hF, h => by
    simp only [evL, Option.some.injEq] at h
    subst h
    exact ⟨⟨set, by simpa using hF⟩, by simp, by simp, by simp⟩
  | c :: cs, PL, fr, set, out, o, hF, h => by
    simp only [evL] at h
    by_cases h1 : c.f3 ≤ fr
    · rw [if_pos h1] at h; cases h
    rw [if_neg h1] at h
    by_cases h2 : okAt n set c.f3 = true
    rotate_left
    · rw [if_neg h2] at h; cases h
    rw [if_pos h2] at h
    have hF1 := fill_put hF c.f3 (invE c) h2
    by_cases h4 : c.f4 = -1
    · rw [if_pos h4] at h
      by_cases h5 : bareB c.f2 = true
      rotate_left
      · rw [if_neg h5] at h; cases h
      rw [if_pos h5] at h
      obtain ⟨⟨s', i1⟩, i2, i3, i4⟩ := fill_L n cs _ _ _ _ o hF1 h
      refine ⟨⟨s', by simpa [putsOf, h4] using i1⟩, ?_, ?_, ?_⟩
      · rw [List.map_cons, List.pairwise_cons]
        exact ⟨fun x hx => by obtain ⟨y, hy, rfl⟩ := List.mem_map.1 hx; exact i3 y hy, i2⟩
      · intro x hx
        rcases List.mem_cons.1 hx with rfl | hx
        · omega
        · have := i3 x hx; omega
      · intro x hx
        rcases List.mem_cons.1 hx with rfl | hx
        · exact .inl ⟨h4, h5⟩
        · exact i4 x hx
    · rw [if_neg h4] at h
      by_cases h5 : c.f4 ≤ c.f3
      · rw [if_pos h5] at h; cases h
      rw [if_neg h5] at h
      by_cases h6 : okAt n (set.set c.f3.toNat true) c.f4 = true
      rotate_left
      · rw [if_neg h6] at h; cases h
      rw [if_pos h6] at h
      have hF2 := fill_put hF1 c.f4 (retE c) h6
      obtain ⟨⟨s', i1⟩, i2, i3, i4⟩ := fill_L n cs _ _ _ _ o hF2 h
      refine ⟨⟨s', by simpa [putsOf, h4] using i1⟩, ?_, ?_, ?_⟩
      · rw [List.map_cons, List.pairwise_cons]
        exact ⟨fun x hx => by obtain ⟨y, hy, rfl⟩ := List.mem_map.1 hx; exact i3 y hy, i2⟩
      · intro x hx
        rcases List.mem_cons.1 hx with rfl | hx
        · omega
        · have := i3 x hx; omega
      · intro x hx
        rcases List.mem_cons.1 hx with rfl | hx
        · exact .inr ⟨h4, by omega⟩
        · exact i4 x hx
theorem fill_start (n : Nat) : Fill n [] (List.replicate n false) (List.replicate n z67) := by
  refine ⟨by simp, by simp, by simp, fun p p0 p1 _ => ?_, fun p p0 p1 h => ?_⟩
  · unfold J67
    rw [List.getD_eq_getElem?_getD, List.getElem?_replicate]
    split <;> rfl
  · rw [rdOf_rep] at h; cases h
theorem sorted_eq : ∀ (a b : List Int), a.Pairwise (· < ·) → b.Pairwise (· < ·) → (∀ x, x ∈ a ↔ x ∈ b) → a = b
  | [], [], _, _, _ => rfl
  | [], y :: ys, _, _, h => by have := (h y).2 (by simp); simp at this
  | x :: xs, [], _, _, h => by have := (h x).1 (by simp); simp at this
  | x :: xs, y :: ys, ha, hb, h => by
    rw [List.pairwise_cons] at ha hb
    have hxy : x = y := by
      have h1 := (h x).1 (by simp)
      have h2 := (h y).2 (by simp)
      rcases List.mem_cons.1 h1 with h1 | h1
      · exact h1
      rcases List.mem_cons.1 h2 with h2 | h2
      · exact h2.symm
      have := hb.1 x h1
      have := ha.1 y h2
      omega
    subst hxy
    rw [sorted_eq xs ys ha.2 hb.2 fun z => ?_]
    constructor
    · intro hz
      rcases List.mem_cons.1 ((h z).1 (List.mem_cons_of_mem _ hz)) with rfl | h1
      · have := ha.1 z hz; omega
      · exact h1
    · intro hz
      rcases List.mem_cons.1 ((h z).2 (List.mem_cons_of_mem _ hz)) with rfl | h1
      · have := hb.1 z hz; omega
      · exact h1
end Go.Proofs.Ytagdkmcgepidoaa.P
/- P15 -/
namespace Go.Proofs.Ytagdkmcgepidoaa.P
open Go.RowKit Go.Proofs.YtagdkmcgepidoaaW.PrintWords Go.Proofs.YtagdkmcgepidoaaW.PrintLast Go.Proofs.YtagdkmcgepidoaaW.PrintMore
theorem cont_of {h : List S67} {r : List S38} {own : Nat → Int} (A : All h r own) : Cont h r :=
  cont_go h h.length 0 _ _ _ [] r (by simp) (by simp) (by simp) A.chk (fun t _ _ ht => by rw [rdOf_rep] at ht; cases ht) ⟨fun q _ q1 => by simp at q1; omega, fun q _ q1 => by simp at q1; omega, fun q _ q1 => by simp at q1; omega⟩ A.go
theorem rebuild_go {h : List S67} {r : List S38} {own : Nat → Int} (A : All h r own) : ∀ d (j : Nat) (fr : Int) (set : List Bool) (out : List S67), j + d = r.length → set.length = h.length → out.length = h.length →
    (∀ p : Int, 0 ≤ p → p < h.length → rdOf false set p = true → own p.toNat < j) → (∀ q : Int, (j : Int) ≤ q → q < r.length → fr < (J38 r q).f3) → ∃ o, evL h.length (r.drop j) fr set out = some o
  | 0, j, fr, set, out, hd, _, _, _, _ => by
    rw [List.drop_eq_nil_of_le (by omega)]
    exact ⟨out, rfl⟩
  | d + 1, j, fr, set, out, hd, hs, ho, hin, hfr => by
    have hC := cont_of A
    rw [drop38 r j (by omega)]
    obtain ⟨⟨f0, f1⟩, f2⟩ := A.ow.fr (j : Int) (by omega) (by omega)
    have ht := A.ow.tw (j : Int) (by omega) (by omega)
    have hlt := A.ow.lt (j : Int) (by omega) (by omega)
    have hpn := hC.pn (j : Int) (by omega) (by omega)
    have h1 := hfr (j : Int) (Int.le_refl _) (by omega)
    have hmo : ∀ q : Int, ((j + 1 : Nat) : Int) ≤ q → q < r.length → (J38 r (j : Int)).f3 < (J38 r q).f3 := fun q q0 q1 => A.sq.mo (j : Int) q (by omega) (by omega) q1
    generalize J38 r (j : Int) = c at *
    unfold evL
    have hk : okAt h.length set c.f3 = true := by
      rw [okAt_iff]
      refine ⟨⟨f0, f1⟩, ?_⟩
      cases hh : rdOf false set c.f3 with
      | false => rfl
      | true => have := hin c.f3 f0 f1 hh; omega
    have hs1 : ∀ i : Int, 0 ≤ i → rdOf false (set.set c.f3.toNat true) i = if i = c.f3 then true else rdOf false set i := fun i hi => rdOf_set set c.f3 i true ⟨f0, by rw [hs]; exact f1⟩ hi
    rw [if_neg (by omega), if_pos hk]
    by_cases h4 : c.f4 = -1
    · rw [if_pos h4, if_pos (by rw [hpn h4]; rfl)]
      exact rebuild_go A d (j + 1) _ _ _ (by omega) (by simpa using hs) (by simpa using ho) (fun p p0 p1 hp => by
        rw [hs1 p p0] at hp
        by_cases e : p = c.f3
        · rw [e, f2]; omega
        · rw [if_neg e] at hp
          have := hin p p0 p1 hp
          omega) hmo
    · rw [if_neg h4]
      rcases ht with ht | ⟨⟨t0, t1⟩, t2⟩
      · exact absurd ht h4
      rcases hlt with hlt | hlt
      · exact absurd hlt h4
      have hk2 : okAt h.length (set.set c.f3.toNat true) c.f4 = true := by
        rw [okAt_iff]
        refine ⟨⟨t0, t1⟩, ?_⟩
        rw [hs1 _ t0, if_neg (by omega)]
        cases hh : rdOf false set c.f4 with
        | false => rfl
        | true => have := hin c.f4 t0 t1 hh; omega
      rw [if_neg (by omega), if_pos hk2]
      have hs2 : ∀ i : Int, 0 ≤ i → rdOf false ((set.set c.f3.toNat true).set c.f4.toNat true) i = if i = c.f4 then true else rdOf false (set.set c.f3.toNat true) i := fun i hi => rdOf_set _ c.f4 i true ⟨t0, by rw [List.length_set, hs]; exact t1⟩ hi
      exact rebuild_go A d (j + 1) _ _ _ (by omega) (by simpa using hs) (by simpa using ho) (fun p p0 p1 hp => by
        rw [hs2 p p0] at hp
        by_cases e2 : p = c.f4
        · rw [e2, t2]; omega
        rw [if_neg e2, hs1 p p0] at hp
        by_cases e : p = c.f3
        · rw [e, f2]; omega
        · rw [if_neg e] at hp
          have := hin p p0 p1 hp
          omega) hmo
theorem ext67 (a b : List S67) (hl : a.length = b.length) (h : ∀ p : Int, 0 ≤ p → p < b.length → J67 a p = J67 b p) : a = b := by
  apply List.ext_getElem hl
  intro i h1 h2
  have := h (i : Int) (by omega) (by omega)
  unfold J67 at this
  rw [Int.toNat_natCast, List.getD_eq_getElem?_getD, List.getD_eq_getElem?_getD, List.getElem?_eq_getElem h1, List.getElem?_eq_getElem h2] at this
  exact this
theorem mem38 (r : List S38) (q : Int) (q0 : 0 ≤ q) (q1 : q < r.length) : J38 r q ∈ r := rd38_mem' r q ⟨q0, q1⟩
theorem rebuild {h : List S67} {r : List S38} {own : Nat → Int} (A : All h r own) : evL h.length r (-1) (List.replicate h.length false) (List.replicate h.length z67) = some h := by
  obtain ⟨o, ho⟩ := rebuild_go A r.length 0 (-1) (List.replicate h.length false) (List.replicate h.length z67) (by omega) (by simp) (by simp) (fun p p0 p1 hp => by rw [rdOf_rep] at hp; cases hp) (fun q q0 q1 => by
    have := (A.ow.fr q (by omega) q1).1.1
    omega)
  rw [List.drop_zero] at ho
  obtain ⟨⟨s', hF⟩, -, -, -⟩ := fill_L h.length r [] (-1) _ _ o (fill_start h.length) ho
  rw [List.nil_append] at hF
  have hC := cont_of A
  rw [ho]
  congr 1
  refine ext67 o h hF.lo fun p p0 p1 => ?_
  by_cases hf : (J67 h p).f1 = true
  · obtain ⟨q, ⟨q0, q1⟩, q2⟩ := A.sq.e1 p.toNat (by omega) (by rw [Int.toNat_of_nonneg p0]; exact hf)
    rw [Int.toNat_of_nonneg p0] at q2
    have h4 : (J38 r q).f4 ≠ -1 := by omega
    have := (hF.pt ((J38 r q).f4, retE (J38 r q)) (List.mem_flatMap.2 ⟨_, mem38 r q q0 q1, by unfold putsOf; rw [if_neg h4]; simp⟩)).2.2
    rw [← q2, hC.rt q q0 q1 h4]
    exact this
  · obtain ⟨q, ⟨q0, q1⟩, q2⟩ := A.sq.e0 p.toNat (by omega) (by rw [Int.toNat_of_nonneg p0]; simpa using hf)
    rw [Int.toNat_of_nonneg p0] at q2
    have := (hF.pt ((J38 r q).f3, invE (J38 r q)) (List.mem_flatMap.2 ⟨_, mem38 r q q0 q1, by unfold putsOf; simp⟩)).2.2
    rw [← q2, hC.iv q q0 q1]
    exact this
theorem chkL_kind (e : S67) (Q : List S67) : ∀ (P : List S67) (op : List Bool) (ops : List S33), chkL (P ++ e :: Q) op ops = 0 → e.f1 = false → 1 ≤ e.f2.f0
  | [], op, ops, h, hf => by
    rw [List.nil_append, chkL_cons] at h
    have := h.1.2.2.2
    unfold evOk at this
    rw [if_neg (by rw [hf]; decide)] at this
    simp only [Bool.and_eq_true, decide_eq_true_eq] at this
    exact this.1
  | x :: P, op, ops, h, hf => by
    rw [List.cons_append, chkL_cons] at h
    exact chkL_kind e Q P _ _ h.2 hf
theorem kind_of {h : List S67} {r : List S38} {own : Nat → Int} (A : All h r own) (p : Nat) (hp : p < h.length) (hf : (J67 h (p : Int)).f1 = false) : 1 ≤ (J67 h (p : Int)).f2.f0 := by
  have hch : chkL h (List.replicate 64 false) (List.replicate 64 z33) = 0 := by
    rw [← A.chk, chkGo_L h _ 0 _ _ (by omega)]; rfl
  have hs : h = h.take p ++ J67 h (p : Int) :: h.drop (p + 1) := by rw [← drop67 h p hp, List.take_append_drop]
  rw [hs] at hch
  exact chkL_kind _ _ _ _ _ hch hf
theorem same_enum {n : Nat} {cs r : List S38} {set : List Bool} {o : List S67} {own : Nat → Int} (hF : Fill n (cs.flatMap putsOf) set o) (hs : (cs.map (·.f3)).Pairwise (· < ·)) (A : All o r own) : r.map (·.f3) = cs.map (·.f3) := by
  have hC := cont_of A
  refine sorted_eq _ _ ?_ hs fun x => ⟨fun hx => ?_, fun hx => ?_⟩
  · rw [List.pairwise_iff_getElem]
    intro i k hi hk hik
    simp only [List.length_map] at hi hk
    rw [List.getElem_map, List.getElem_map, rd38_get r i hi, rd38_get r k hk]
    exact A.sq.mo (i : Int) (k : Int) (by omega) (by omega) (by omega)
  · obtain ⟨c, hc, rfl⟩ := List.mem_map.1 hx
    obtain ⟨i, hi, rfl⟩ := List.mem_iff_getElem.1 hc
    rw [rd38_get r i hi]
    obtain ⟨⟨f0, f1⟩, -⟩ := A.ow.fr (i : Int) (by omega) (by omega)
    have hiv := hC.iv (i : Int) (by omega) (by omega)
    obtain ⟨c, hcc⟩ : ∃ c, c = J38 r (i : Int) := ⟨_, rfl⟩
    rw [← hcc] at f0 f1 hiv ⊢
    have hk := kind_of A c.f3.toNat (by omega) (by rw [Int.toNat_of_nonneg f0, hiv]; rfl)
    rw [Int.toNat_of_nonneg f0] at hk
    cases hh : rdOf false set c.f3 with
    | false =>
      have := hF.un c.f3 f0 (by rw [← hF.lo]; exact f1) hh
      rw [this] at hk
      exact absurd hk (by decide)
    | true =>
      obtain ⟨e, he⟩ := hF.us c.f3 f0 (by rw [← hF.lo]; exact f1) hh
      have hv := (hF.pt _ he).2.2
      obtain ⟨c', hc', hm⟩ := List.mem_flatMap.1 he
      unfold putsOf at hm
      rcases List.mem_cons.1 hm with hm | hm
      · injection hm with hm1 hm2
        exact List.mem_map.2 ⟨c', hc', hm1.symm⟩
      · split at hm
        · simp at hm
        · simp only [List.mem_singleton] at hm
          injection hm with hm1 hm2
          rw [hm2] at hv
          simp only at hv
          rw [hv] at hiv
          have := congrArg (·.f1) hiv
          simp [invE, retE] at this
  · obtain ⟨c, hc, rfl⟩ := List.mem_map.1 hx
    obtain ⟨⟨h0, h1⟩, -, h3⟩ := hF.pt (c.f3, invE c) (List.mem_flatMap.2 ⟨c, hc, by unfold putsOf; simp⟩)
    simp only at h0 h1 h3
    obtain ⟨q, ⟨q0, q1⟩, q2⟩ := A.sq.e0 c.f3.toNat (by rw [hF.lo]; omega) (by rw [Int.toNat_of_nonneg h0, h3]; rfl)
    rw [Int.toNat_of_nonneg h0] at q2
    exact List.mem_map.2 ⟨_, mem38 r q q0 q1, q2⟩
theorem same_call {n : Nat} {cs r : List S38} {set : List Bool} {o : List S67} {own : Nat → Int} (hF : Fill n (cs.flatMap putsOf) set o) (hs : (cs.map (·.f3)).Pairwise (· < ·)) (hb : ∀ c ∈ cs, (c.f4 = -1 ∧ bareB c.f2 = true) ∨ (c.f4 ≠ -1 ∧ c.f3 < c.f4)) (A : All o r own) (q : Int) (q0 : 0 ≤ q) (q1 : q < cs.length) : (J38 r q).f3 = (J38 cs q).f3 ∧ callSame (J38 r q) (J38 cs q) = decide ((J38 r q).f4 = (J38 cs q).f4) := by
  have hC := cont_of A
  have he := same_enum hF hs A
  have hl : r.length = cs.length := by simpa using congrArg List.length he
  have h3 : (J38 r q).f3 = (J38 cs q).f3 := by
    have := congrArg (fun l => l[q.toNat]?) he
    simp only [List.getElem?_map] at this
    rw [List.getElem?_eq_getElem (by omega), List.getElem?_eq_getElem (by omega)] at this
    simp only [Option.map_some, Option.some.injEq] at this
    rw [rd38_get r _ (by omega), rd38_get cs _ (by omega), Int.toNat_of_nonneg q0] at this
    exact this
  refine ⟨h3, ?_⟩
  have hm := mem38 cs q q0 q1
  have hiv := hC.iv q q0 (by omega)
  have hpt := (hF.pt ((J38 cs q).f3, invE (J38 cs q)) (List.mem_flatMap.2 ⟨_, hm, by unfold putsOf; simp⟩)).2.2
  simp only at hpt
  rw [h3, hpt] at hiv
  have hrt := hC.rt q q0 (by omega)
  have hpn := hC.pn q q0 (by omega)
  have hq2 : (J38 cs q).f4 ≠ -1 → J67 o (J38 cs q).f4 = retE (J38 cs q) := fun h4 => (hF.pt ((J38 cs q).f4, retE (J38 cs q)) (List.mem_flatMap.2 ⟨_, hm, by unfold putsOf; rw [if_neg h4]; simp⟩)).2.2
  have hbq := hb _ hm
  generalize J38 r q = a at *
  generalize J38 cs q = b at *
  have e0 : b.f0 = a.f0 := congrArg (·.f0) hiv
  have e1 : b.f1 = a.f1 := congrArg (·.f2) hiv
  by_cases h4 : a.f4 = b.f4
  · rw [decide_eq_true h4]
    have e2 : a.f2 = b.f2 := by
      by_cases hn : a.f4 = -1
      · rcases hbq with ⟨_, h⟩ | ⟨h, _⟩
        · rw [hpn hn, bare_z36 _ h]
        · exact absurd (h4 ▸ hn) h
      · have k1 := hrt hn
        rw [h4, hq2 (h4 ▸ hn)] at k1
        exact (congrArg (·.f3) k1).symm
    obtain ⟨a0, a1, a2, a3, a4⟩ := a
    obtain ⟨b0, b1, b2, b3, b4⟩ := b
    simp only at e0 e1 e2 h3 h4
    subst e0 e1 e2 h3 h4
    unfold callSame sameRetB
    simp [opSame, pairsGo_refl]
  · rw [decide_eq_false h4]
    unfold callSame
    have : (a.f4 == b.f4) = false := by simpa using h4
    rw [this]
    simp
end Go.Proofs.Ytagdkmcgepidoaa.P
