/- P.eventAhead_holds, part 20 of 20: the contracts of the Go functions that the law calls, its own walk, and its plain law, for every input that the statement speaks of. -/
import Derived.Test.YtagdkmcgepidoaaMAhead17
import Derived.Test.YtagdkmcgepidoaaMAhead2
import Derived.Test.YtagdkmcgepidoaaMAhead10
import Derived.Test.YtagdkmcgepidoaaMAhead15
import Derived.Test.YtagdkmcgepidoaaMAhead12
import Derived.Test.YtagdkmcgepidoaaMAhead16
import Derived.Test.YtagdkmcgepidoaaMAhead18
import Derived.Test.YtagdkmcgepidoaaMAhead7
set_option linter.unusedVariables false
set_option linter.unusedSimpArgs false
/- P8 -/
namespace Go.Proofs.Ytagdkmcgepidoaa.P
open Go.RowKit Go.Proofs.YtagdkmcgepidoaaW.PrintWords Go.Proofs.YtagdkmcgepidoaaW.PrintLast Go.Proofs.YtagdkmcgepidoaaW.PrintMore
structure Seq (l0 : List S67) (out : List S38) (j : Nat) : Prop where
  bd : ∀ q : Int, 0 ≤ q → q < out.length → (0 ≤ (J38 out q).f3 ∧ (J38 out q).f3 < j) ∧ ((J38 out q).f4 = -1 ∨ (0 ≤ (J38 out q).f4 ∧ (J38 out q).f4 < j))
  mo : ∀ q q' : Int, 0 ≤ q → q < q' → q' < out.length → (J38 out q).f3 < (J38 out q').f3
  th : ∀ q q' : Int, 0 ≤ q → q < q' → q' < out.length → (J38 out q).f0 = (J38 out q').f0 → 0 ≤ (J38 out q).f4 ∧ (J38 out q).f4 < (J38 out q').f3
  e1 : ∀ i : Nat, i < j → (J67 l0 (i : Int)).f1 = true → ∃ q : Int, (0 ≤ q ∧ q < out.length) ∧ (J38 out q).f4 = i
  e0 : ∀ i : Nat, i < j → (J67 l0 (i : Int)).f1 = false → ∃ q : Int, (0 ≤ q ∧ q < out.length) ∧ (J38 out q).f3 = i
theorem seq_go (l0 : List S67) : ∀ d (j : Nat) (op : List Bool) (ops : List S33) (last : List Int) (out r : List S38), op.length = 64 → last.length = 64 → chkGo l0 d j op ops = 0 →
    (∀ t : Int, 0 ≤ t → t < 64 → rdOf false op t = true → (0 ≤ rd last t ∧ rd last t < out.length) ∧ (J38 out (rd last t)).f0 = t ∧ (J38 out (rd last t)).f4 = -1) →
    (∀ q : Int, 0 ≤ q → q < out.length → (J38 out q).f4 = -1 → (0 ≤ (J38 out q).f0 ∧ (J38 out q).f0 < 64) ∧ rdOf false op (J38 out q).f0 = true ∧ rd last (J38 out q).f0 = q) →
    Seq l0 out j → callsGo l0 d j last out = some r → Seq l0 r (j + d)
  | 0, j, op, ops, last, out, r, _, _, _, _, _, hS, hr => by
    simp only [callsGo, Option.some.injEq] at hr
    subst hr
    exact hS
  | d + 1, j, op, ops, last, out, r, h1, h2, hc, hop, hcl, hS, hr => by
    obtain ⟨hf, hf1, -, hc'⟩ := chk_step hc
    obtain ⟨e, he⟩ : ∃ e, e = J67 l0 (j : Int) := ⟨_, rfl⟩
    simp only [callsGo, ← he] at hr
    rw [← he] at hf hf1 hc'
    rw [if_pos hf] at hr
    rw [show j + (d + 1) = j + 1 + d by omega]
    by_cases hb : e.f1 = true
    · obtain ⟨hq, hq0, hq4⟩ := hop e.f0 hf.1 hf.2 (by rw [← hf1]; exact hb)
      obtain ⟨q, hqe⟩ : ∃ q, q = rd last e.f0 := ⟨_, rfl⟩
      rw [if_pos hb] at hr
      rw [← hqe] at hq hq0 hq4 hr
      split at hr
      rotate_left
      · cases hr
      rename_i hg
      obtain ⟨v, hv⟩ : ∃ v : S38, v = ⟨(J38 out q).f0, (J38 out q).f1, e.f3, (J38 out q).f3, (j : Int)⟩ := ⟨_, rfl⟩
      rw [← hv] at hr
      have hv0 : v.f0 = (J38 out q).f0 := by rw [hv]
      have hv3 : v.f3 = (J38 out q).f3 := by rw [hv]
      have hv4 : v.f4 = (j : Int) := by rw [hv]
      clear hv hg
      have rs : ∀ i : Int, 0 ≤ i → J38 (out.set q.toNat v) i = if i = q then v else J38 out i := fun i hi => rd38_set out q i v hq hi
      have r0 : ∀ i : Int, 0 ≤ i → (J38 (out.set q.toNat v) i).f0 = (J38 out i).f0 := fun i hi => by
        rw [rs i hi]
        by_cases e1 : i = q
        · rw [if_pos e1, hv0, e1]
        · rw [if_neg e1]
      have r3 : ∀ i : Int, 0 ≤ i → (J38 (out.set q.toNat v) i).f3 = (J38 out i).f3 := fun i hi => by
        rw [rs i hi]
        by_cases e1 : i = q
        · rw [if_pos e1, hv3, e1]
        · rw [if_neg e1]
      have r4 : ∀ i : Int, 0 ≤ i → (J38 (out.set q.toNat v) i).f4 = if i = q then (j : Int) else (J38 out i).f4 := fun i hi => by
        rw [rs i hi]
        by_cases e1 : i = q
        · rw [if_pos e1, if_pos e1, hv4]
        · rw [if_neg e1, if_neg e1]
      refine seq_go l0 d (j + 1) _ _ last _ r (by simpa using h1) h2 hc' (fun t t0 t1 ht => ?_) (fun i i0 i1 hi => ?_) ⟨fun i i0 i1 => ?_, fun i i' i0 i1 i2 => ?_, fun i i' i0 i1 i2 h => ?_, fun i hi hh => ?_, fun i hi hh => ?_⟩ hr
      · rw [rdOf_set _ _ _ _ (by omega) t0] at ht
        by_cases e1 : t = e.f0
        · rw [if_pos e1, hb] at ht; simp at ht
        · rw [if_neg e1] at ht
          obtain ⟨a, b, c⟩ := hop t t0 t1 ht
          rw [List.length_set, rs _ a.1]
          have : rd last t ≠ q := fun hh => e1 (by rw [hh] at b; omega)
          rw [if_neg this]
          exact ⟨a, b, c⟩
      · rw [List.length_set] at i1
        rw [r4 i i0] at hi
        by_cases e1 : i = q
        · rw [if_pos e1] at hi; omega
        · rw [if_neg e1] at hi
          obtain ⟨a, b, c⟩ := hcl i i0 i1 hi
          rw [r0 i i0]
          have ne : (J38 out i).f0 ≠ e.f0 := fun hh => e1 (by rw [hh, ← hqe] at c; exact c.symm)
          refine ⟨a, ?_, c⟩
          rw [rdOf_set _ _ _ _ (by omega) a.1, if_neg ne]
          exact b
      · rw [List.length_set] at i1
        obtain ⟨a, b⟩ := hS.bd i i0 i1
        rw [r3 i i0, r4 i i0]
        refine ⟨by omega, ?_⟩
        split
        · right; omega
        · omega
      · rw [List.length_set] at i2
        rw [r3 i i0, r3 i' (by omega)]
        exact hS.mo i i' i0 i1 i2
      · rw [List.length_set] at i2
        rw [r0 i i0, r0 i' (by omega)] at h
        have := hS.th i i' i0 i1 i2 h
        rw [r4 i i0, r3 i' (by omega)]
        by_cases e1 : i = q
        · rw [e1] at this; omega
        · rw [if_neg e1]
          exact this
      · by_cases e2 : i = j
        · exact ⟨q, by rw [List.length_set]; exact hq, by rw [r4 q hq.1, if_pos rfl, e2]⟩
        · obtain ⟨p, a, b⟩ := hS.e1 i (by omega) hh
          refine ⟨p, by rw [List.length_set]; exact a, ?_⟩
          rw [r4 p a.1, if_neg (fun hp => by rw [hp, hq4] at b; omega)]
          exact b
      · by_cases e2 : i = j
        · rw [e2, ← he, hb] at hh
          cases hh
        · obtain ⟨p, a, b⟩ := hS.e0 i (by omega) hh
          exact ⟨p, by rw [List.length_set]; exact a, by rw [r3 p a.1]; exact b⟩
    · have hb' : e.f1 = false := by simpa using hb
      rw [if_neg hb] at hr
      split at hr
      rotate_left
      · cases hr
      obtain ⟨v, hv⟩ : ∃ v : S38, v = ⟨e.f0, e.f2, z36, (j : Int), -1⟩ := ⟨_, rfl⟩
      rw [← hv] at hr
      have hv0 : v.f0 = e.f0 := by rw [hv]
      have hv3 : v.f3 = (j : Int) := by rw [hv]
      have hv4 : v.f4 = -1 := by rw [hv]
      clear hv
      have rs : ∀ i : Int, 0 ≤ i ∧ i ≤ out.length → J38 (out ++ [v]) i = if i = out.length then v else J38 out i := fun i hi => rd38_app out v i hi
      have rn : J38 (out ++ [v]) (out.length : Int) = v := by rw [rs _ (by omega), if_pos rfl]
      have ro : ∀ i : Int, 0 ≤ i → i < out.length → J38 (out ++ [v]) i = J38 out i := fun i a b => by rw [rs i (by omega), if_neg (by omega)]
      have hL : ((out ++ [v]).length : Int) = out.length + 1 := by simp
      refine seq_go l0 d (j + 1) _ _ (last.set e.f0.toNat (out.length : Int)) _ r (by simpa using h1) (by simpa using h2) hc' (fun t t0 t1 ht => ?_) (fun i i0 i1 hi => ?_) ⟨fun i i0 i1 => ?_, fun i i' i0 i1 i2 => ?_, fun i i' i0 i1 i2 h => ?_, fun i hi hh => ?_, fun i hi hh => ?_⟩ hr
      · rw [rdOf_set _ _ _ _ (by omega) t0] at ht
        rw [rd_set _ _ _ _ (by omega) t0, hL]
        by_cases e1 : t = e.f0
        · rw [if_pos e1, rn, hv0, hv4]
          exact ⟨by omega, e1.symm, rfl⟩
        · rw [if_neg e1] at ht
          obtain ⟨a, b, c⟩ := hop t t0 t1 ht
          rw [if_neg e1, ro _ a.1 a.2]
          exact ⟨by omega, b, c⟩
      · rw [hL] at i1
        by_cases e1 : i = out.length
        · rw [e1, rn, hv0, rdOf_set _ _ _ _ (by omega) hf.1, if_pos rfl, rd_set _ _ _ _ (by omega) hf.1, if_pos rfl, hb']
          exact ⟨hf, rfl, rfl⟩
        · rw [ro i i0 (by omega)] at hi ⊢
          obtain ⟨a, b, c⟩ := hcl i i0 (by omega) hi
          have ne : (J38 out i).f0 ≠ e.f0 := fun hh => by rw [hh, ← hf1, hb'] at b; cases b
          rw [rdOf_set _ _ _ _ (by omega) a.1, if_neg ne, rd_set _ _ _ _ (by omega) a.1, if_neg ne]
          exact ⟨a, b, c⟩
      · rw [hL] at i1
        by_cases e1 : i = out.length
        · rw [e1, rn, hv3, hv4]
          exact ⟨by omega, .inl rfl⟩
        · rw [ro i i0 (by omega)]
          have := hS.bd i i0 (by omega)
          omega
      · rw [hL] at i2
        by_cases e1 : i' = out.length
        · rw [e1, rn, hv3, ro i i0 (by omega)]
          exact (hS.bd i i0 (by omega)).1.2
        · rw [ro i' (by omega) (by omega), ro i i0 (by omega)]
          exact hS.mo i i' i0 i1 (by omega)
      · rw [hL] at i2
        by_cases e1 : i' = out.length
        · rw [e1, rn, hv0, ro i i0 (by omega)] at h
          rw [e1, rn, hv3, ro i i0 (by omega)]
          rcases (hS.bd i i0 (by omega)).2 with h4 | h4
          · obtain ⟨_, b, _⟩ := hcl i i0 (by omega) h4
            rw [h, ← hf1, hb'] at b
            cases b
          · exact h4
        · rw [ro i' (by omega) (by omega), ro i i0 (by omega)] at h ⊢
          exact hS.th i i' i0 i1 (by omega) h
      · by_cases e2 : i = j
        · rw [e2, ← he, hb'] at hh
          cases hh
        · obtain ⟨p, a, b⟩ := hS.e1 i (by omega) hh
          exact ⟨p, by rw [hL]; omega, by rw [ro p a.1 a.2]; exact b⟩
      · by_cases e2 : i = j
        · exact ⟨(out.length : Int), by rw [hL]; omega, by rw [rn, hv3, e2]⟩
        · obtain ⟨p, a, b⟩ := hS.e0 i (by omega) hh
          exact ⟨p, by rw [hL]; omega, by rw [ro p a.1 a.2]; exact b⟩
theorem seq_of (l0 : List S67) (r : List S38) (hE : event_Check.f l0 = some 0) (hl : l0.length ≤ 100000) (hA : event_Calls.f l0 = some (r, 0)) : Seq l0 r l0.length := by
  have hchk : chkGo l0 l0.length 0 (List.replicate 64 false) (List.replicate 64 z33) = 0 := by
    unfold event_Check.f at hE
    rw [if_neg (by omega)] at hE
    exact Option.some.inj hE
  have hcg : callsGo l0 l0.length 0 (List.replicate 64 0) [] = some r := by
    unfold event_Calls.f event_calls.f at hA
    rw [hE] at hA
    simp only [Option.bind_some, if_true] at hA
    obtain ⟨t, h1, h2⟩ := Option.bind_eq_some_iff.mp hA
    cases h2
    exact h1
  have := seq_go l0 l0.length 0 (List.replicate 64 false) (List.replicate 64 z33) (List.replicate 64 0) [] r (by simp) (by simp) hchk (fun t _ _ ht => by
    rw [rdOf_rep] at ht
    cases ht) (fun q q0 q1 => by simp at q1; omega) ⟨fun q q0 q1 => by simp at q1; omega, fun q q' q0 q1 q2 => by simp at q2; omega, fun q q' q0 q1 q2 => by simp at q2; omega, fun i hi => by omega, fun i hi => by omega⟩ hcg
  rwa [Nat.zero_add] at this
def Line (r : List S38) : Prop := ∀ i k : Int, 0 ≤ i → i < k → k < r.length → aheadB (J38 r i) (J38 r k) = true
theorem mx_le (a b c : Int) : mx a b ≤ c ↔ a ≤ c ∧ b ≤ c := by
  unfold mx
  split <;> omega
theorem aheadB_iff (a b : S38) : aheadB a b = true ↔ 0 ≤ a.f4 ∧ a.f4 < b.f3 := by
  unfold aheadB
  rw [Bool.and_eq_true, decide_eq_true_eq, decide_eq_true_eq]
def Back (r : List S38) (q : Int) (j : Nat) : Prop := 0 ≤ (J38 r q).f4 ∧ (J38 r q).f4 < j
theorem wrap_dn {n : Int} (h0 : -1000000 ≤ n) (h1 : n ≤ 1000000) : wrap64 (n - 1) = n - 1 := by unfold wrap64; omega
theorem wrap_up {n : Int} (h0 : -1000000 ≤ n) (h1 : n ≤ 1000000) : wrap64 (n + 1) = n + 1 := by unfold wrap64; omega
theorem width_bad (l0 : List S67) (hl : l0.length ≤ 100000) : ∀ d (j : Nat) (now most : Int), j + d = l0.length → -(j : Int) ≤ now ∧ now ≤ j → 2 ≤ most → ∃ v : Int, 2 ≤ v ∧ Ev (fun k => event_Width.l0 k now most l0 (l0.length : Int) (j : Int)) (v, 0)
  | 0, j, now, most, hd, hn, hm => ⟨most, hm, Ev.succ ((Ev.const _).congr fun k => by simp only [event_Width.l0]; rw [if_neg (by omega)])⟩
  | d + 1, j, now, most, hd, hn, hm => by
    have hw1 : wrap64 (now - 1) = now - 1 := by unfold wrap64; omega
    have hw2 : wrap64 (now + 1) = now + 1 := by unfold wrap64; omega
    by_cases hb : (J67 l0 (j : Int)).f1 = true
    · obtain ⟨v, h1, h2⟩ := width_bad l0 hl d (j + 1) (now - 1) (mx most (now - 1)) (by omega) (by omega) (by unfold mx; split <;> omega)
      refine ⟨v, h1, Ev.succ (h2.congr fun k => ?_)⟩
      simp only [event_Width.l0]
      rw [if_pos (by omega), if_pos (by omega), if_pos (by omega), if_pos hb, hw1, wrap_succ (by omega)]
    · obtain ⟨v, h1, h2⟩ := width_bad l0 hl d (j + 1) (now + 1) (mx most (now + 1)) (by omega) (by omega) (by unfold mx; split <;> omega)
      refine ⟨v, h1, Ev.succ (h2.congr fun k => ?_)⟩
      simp only [event_Width.l0]
      rw [if_pos (by omega), if_pos (by omega), if_pos (by omega), if_neg hb, hw2, wrap_succ (by omega)]
theorem width_go (l0 : List S67) (hl : l0.length ≤ 100000) (r : List S38) (own : Nat → Int) (hO : Own r l0.length own) (hS : Seq l0 r l0.length) : ∀ d (j : Nat) (now most : Int), j + d = l0.length → (now = 0 ∨ now = 1) → most ≤ 1 →
    (now = 0 → ∀ q : Int, 0 ≤ q → q < r.length → (J38 r q).f3 < j → Back r q j) →
    (now = 1 → ∃ p : Int, (0 ≤ p ∧ p < r.length) ∧ (J38 r p).f3 < j ∧ ¬ Back r p j ∧ ∀ q : Int, 0 ≤ q → q < r.length → q ≠ p → (J38 r q).f3 < j → Back r q j) →
    (∀ i k : Int, 0 ≤ i → i < k → k < r.length → (J38 r k).f3 < j → aheadB (J38 r i) (J38 r k) = true) →
    ∃ v : Int, (v ≤ 1 ↔ Line r) ∧ Ev (fun k => event_Width.l0 k now most l0 (l0.length : Int) (j : Int)) (v, 0)
  | 0, j, now, most, hd, hn, hm, _, _, hA => by
    refine ⟨most, ⟨fun _ => fun i k i0 ik k1 => hA i k i0 ik k1 ?_, fun _ => hm⟩, Ev.succ ((Ev.const _).congr fun k => by simp only [event_Width.l0]; rw [if_neg (by omega)])⟩
    have := (hS.bd k (by omega) k1).1
    omega
  | d + 1, j, now, most, hd, hn, hm, h0, h1, hA => by
    have hw1 : wrap64 (now - 1) = now - 1 := wrap_dn (by rcases hn with h | h <;> rw [h] <;> decide) (by rcases hn with h | h <;> rw [h] <;> decide)
    have hw2 : wrap64 (now + 1) = now + 1 := wrap_up (by rcases hn with h | h <;> rw [h] <;> decide) (by rcases hn with h | h <;> rw [h] <;> decide)
    by_cases hb : (J67 l0 (j : Int)).f1 = true
    · obtain ⟨p, hp, hp4⟩ := hS.e1 j (by omega) hb
      have hpl := (hS.bd p hp.1 hp.2).1
      have hlt := hO.lt p hp.1 hp.2
      have hown : own j = p := by
        rcases hO.tw p hp.1 hp.2 with h | ⟨_, h⟩
        · omega
        · rw [hp4, Int.toNat_natCast] at h
          exact h
      have hnb : ¬ Back r p j := fun h => by unfold Back at h; omega
      have hn1 : now = 1 := by
        rcases hn with h | h
        · exact absurd (h0 h p hp.1 hp.2 (by omega)) hnb
        · exact h
      obtain ⟨p', hp', h3, h4, h5⟩ := h1 hn1
      have epp : p = p' := Decidable.byContradiction fun hh => hnb (h5 p hp.1 hp.2 hh (by omega))
      subst epp
      have nof3 : ∀ q : Int, 0 ≤ q → q < r.length → (J38 r q).f3 ≠ j := fun q a b h => by
        have := (hO.fr q a b).2
        rw [h, Int.toNat_natCast, hown] at this
        rw [← this] at h
        omega
      obtain ⟨v, hv, hE⟩ := width_go l0 hl r own hO hS d (j + 1) (now - 1) (mx most (now - 1)) (by omega) (by omega) ((mx_le _ _ _).2 ⟨hm, by omega⟩) (fun _ q a b c => by
        have c' : (J38 r q).f3 < j := by have := nof3 q a b; omega
        by_cases e : q = p
        · rw [e]; unfold Back; omega
        · have := h5 q a b e c'
          unfold Back at this ⊢
          omega) (fun h => by omega) (fun i k i0 ik k1 hk => hA i k i0 ik k1 (by have := nof3 k (by omega) k1; omega))
      refine ⟨v, hv, Ev.succ (hE.congr fun k => ?_)⟩
      simp only [event_Width.l0]
      rw [if_pos (by omega), if_pos (by omega), if_pos (by omega), if_pos hb, hw1, wrap_succ (by omega)]
    · have hb' : (J67 l0 (j : Int)).f1 = false := by simpa using hb
      obtain ⟨p, hp, hp3⟩ := hS.e0 j (by omega) hb'
      have hlt := hO.lt p hp.1 hp.2
      have hown : own j = p := by
        have h := (hO.fr p hp.1 hp.2).2
        rw [hp3, Int.toNat_natCast] at h
        exact h
      have nof4 : ∀ q : Int, 0 ≤ q → q < r.length → (J38 r q).f4 ≠ j := fun q a b h => by
        rcases hO.tw q a b with h' | ⟨_, h'⟩
        · omega
        · rw [h, Int.toNat_natCast, hown] at h'
          rw [← h'] at h
          omega
      rcases hn with hn0 | hn1
      · obtain ⟨v, hv, hE⟩ := width_go l0 hl r own hO hS d (j + 1) (now + 1) (mx most (now + 1)) (by omega) (by omega) ((mx_le _ _ _).2 ⟨hm, by omega⟩) (fun h => by omega) (fun _ => ⟨p, hp, by omega, fun h => by unfold Back at h; omega, fun q a b e c => by
          have c' : (J38 r q).f3 < j := by
            refine Decidable.byContradiction fun hh => e ?_
            have h3 : (J38 r q).f3 = j := by omega
            have := (hO.fr q a b).2
            rw [h3, Int.toNat_natCast, hown] at this
            exact this.symm
          have := h0 hn0 q a b c'
          unfold Back at this ⊢
          omega⟩) (fun i k i0 ik k1 hk => by
          by_cases h3 : (J38 r k).f3 < j
          · exact hA i k i0 ik k1 h3
          · have hmo := hS.mo i k i0 ik k1
            have := h0 hn0 i i0 (by omega) (by omega)
            unfold Back at this
            rw [aheadB_iff]
            omega)
        refine ⟨v, hv, Ev.succ (hE.congr fun k => ?_)⟩
        simp only [event_Width.l0]
        rw [if_pos (by omega), if_pos (by omega), if_pos (by omega), if_neg hb, hw2, wrap_succ (by omega)]
      · obtain ⟨p', hp', h3, h4, h5⟩ := h1 hn1
        have hj1 := (hS.bd p' hp'.1 hp'.2).1
        obtain ⟨v, hv, hE⟩ := width_bad l0 hl d (j + 1) (now + 1) (mx most (now + 1)) (by omega) (by omega) (by unfold mx; split <;> omega)
        refine ⟨v, ⟨fun h => by omega, fun h => ?_⟩, Ev.succ (hE.congr fun k => ?_)⟩
        · have hpp : p' < p := by
            rcases Int.lt_trichotomy p' p with h | h | h
            · exact h
            · rw [h] at h3; omega
            · have := hS.mo p p' hp.1 h hp'.2
              omega
          have := (aheadB_iff _ _).1 (h p' p hp'.1 hpp hp.2)
          refine absurd ?_ h4
          clear h1 h0 hA h5 h4
          unfold Back
          omega
        · simp only [event_Width.l0]
          rw [if_pos (by omega), if_pos (by omega), if_pos (by omega), if_neg hb, hw2, wrap_succ (by omega)]
theorem row_val (l0 : List S67) (hl : l0.length ≤ 100000) (hE : event_Check.f l0 = some 0) (r : List S38) (own : Nat → Int) (hO : Own r l0.length own) (hS : Seq l0 r l0.length) : ∃ b : Bool, Ev (fun k => event_Row.f k l0) (b, 0) ∧ (b = true ↔ Line r) := by
  obtain ⟨v, hv, h⟩ := width_go l0 hl r own hO hS l0.length 0 0 0 (by omega) (.inl rfl) (by decide) (fun _ q a b c => by have := (hS.bd q a b).1; omega) (fun h => by cases h) (fun i k a b c e => by have := (hS.bd k (by omega) c).1; omega)
  refine ⟨decide (v ≤ 1), ?_, by rw [decide_eq_true_eq]; exact hv⟩
  unfold event_Row.f event_Width.f
  rw [hE]
  simp only [Option.bind_some, if_true]
  refine Ev.bind (x := (v, 0)) h ?_
  simp only [if_true]
  exact Ev.const _
theorem ahead_val (l0 : List S67) (r : List S38) (hA : event_Calls.f l0 = some (r, 0)) (a b : Int) (ha : 0 ≤ a ∧ a < r.length) (hb : 0 ≤ b ∧ b < r.length) : event_Ahead.f l0 a b = some (aheadB (J38 r a) (J38 r b), 0) := by
  unfold event_Ahead.f event_ahead.f aheadB
  rw [hA]
  simp only [Option.bind_some, if_true]
  rw [if_neg (by omega), if_neg (by omega), if_neg (by omega), if_neg (by omega), if_pos ha.1, if_pos ha.2, if_pos hb.1, if_pos hb.2]
  by_cases h4 : (J38 r a).f4 ≥ 0
  · rw [if_pos h4, decide_eq_true (show 0 ≤ (J38 r a).f4 from h4), Bool.true_and]
    rfl
  · rw [if_neg h4, decide_eq_false (show ¬ 0 ≤ (J38 r a).f4 from h4), Bool.false_and]
    rfl
end Go.Proofs.Ytagdkmcgepidoaa.P
/- P9 -/
namespace Go.Proofs.Ytagdkmcgepidoaa.P
open Go.RowKit Go.Proofs.YtagdkmcgepidoaaW.PrintWords Go.Proofs.YtagdkmcgepidoaaW.PrintLast Go.Proofs.YtagdkmcgepidoaaW.PrintMore
theorem rdL9_set (x : List (List Bool)) (a i : Int) (v : List Bool) (ha : 0 ≤ a ∧ a < x.length) (hi : 0 ≤ i) : rd_L9 (x.set a.toNat v) i = if i = a then v else rd_L9 x i := by
  unfold rd_L9
  rw [List.getD_eq_getElem?_getD, List.getElem?_set]
  by_cases e : i = a
  · subst e
    rw [if_pos rfl, if_pos (by omega), if_pos rfl]
    rfl
  · rw [if_neg (by omega), if_neg e, List.getD_eq_getElem?_getD]
def Row9 (r : List S38) (x : List (List Bool)) (q m : Nat) : Prop := (rd_L9 x (q : Int)).length = r.length ∧ ∀ t : Nat, t < m → rdOf false (rd_L9 x (q : Int)) (t : Int) = aheadB (J38 r (q : Int)) (J38 r (t : Int))
section
variable (y : List S67) (r : List S38) (hn : r.length ≤ 60) (hA : event_Calls.f y = some (r, 0)) (v : Bool)
theorem ah_l1 (hn : r.length ≤ 60) (hA : event_Calls.f y = some (r, 0)) (i : Nat) (hi : i < r.length) : ∀ d (k : Nat) (x : List (List Bool)), k + d = r.length → x.length = r.length → (∀ q : Nat, q < i → Row9 r x q r.length) → Row9 r x i k →
    (∀ x' : List (List Bool), x'.length = r.length → (∀ q : Nat, q < i + 1 → Row9 r x' q r.length) → Ev (fun f => larchlaw05_EventAhead.l0 f y r (r.length : Int) x' true (((i + 1 : Nat)) : Int)) v) →
    Ev (fun f => larchlaw05_EventAhead.l1 f y r (r.length : Int) x true (i : Int) (k : Int)) v
  | 0, k, x, hd, hx, hq, hk, hc => by
    have e : k = r.length := by omega
    refine Ev.succ ((hc x hx fun q h => ?_).congr fun f => ?_)
    · by_cases e1 : q = i
      · rw [e1, ← e]
        exact e ▸ hk
      · exact hq q (by omega)
    · simp only [larchlaw05_EventAhead.l1]
      rw [if_neg (by omega), wrap_succ (by omega)]
  | d + 1, k, x, hd, hx, hq, hk, hc => by
    have hv := ahead_val y r hA (i : Int) (k : Int) ⟨by omega, by omega⟩ ⟨by omega, by omega⟩
    have hl := hk.1
    have hs := rdL9_set x (i : Int)
    simp only [Int.toNat_natCast] at hs
    have hb := rdOf_set (rd_L9 x (i : Int)) (k : Int)
    simp only [Int.toNat_natCast] at hb
    refine Ev.succ ((ah_l1 hn hA i hi d (k + 1) (x.set i ((rd_L9 x (i : Int)).set k (aheadB (J38 r (i : Int)) (J38 r (k : Int))))) (by omega) (by simpa using hx) (fun q h => ?_) ⟨?_, fun t ht => ?_⟩ hc).congr fun f => ?_)
    · obtain ⟨a, b⟩ := hq q h
      unfold Row9
      rw [hs _ _ (by omega) (by omega), if_neg (by omega)]
      exact ⟨a, b⟩
    · rw [hs _ _ (by omega) (by omega), if_pos rfl, List.length_set]
      exact hl
    · rw [hs _ _ (by omega) (by omega), if_pos rfl, hb _ _ (by omega) (by omega)]
      by_cases e1 : t = k
      · rw [if_pos (by omega), e1]
      · rw [if_neg (by omega)]
        exact hk.2 t (by omega)
    · simp only [larchlaw05_EventAhead.l1]
      rw [if_pos (by omega), hv]
      simp only [Option.bind_some]
      rw [if_pos trivial, if_pos (by omega), if_pos (by omega), if_pos (by omega), if_pos (by omega), wrap_succ (by omega), Int.toNat_natCast, Int.toNat_natCast]
theorem ah_l0 (hn : r.length ≤ 60) (hA : event_Calls.f y = some (r, 0)) (hc : ∀ x' : List (List Bool), x'.length = r.length → (∀ q : Nat, q < r.length → Row9 r x' q r.length) → Ev (fun f => larchlaw05_EventAhead.l2 f y r (r.length : Int) x' true 0) v) : ∀ d (i : Nat) (x : List (List Bool)), i + d = r.length → x.length = r.length → (∀ q : Nat, q < i → Row9 r x q r.length) →
    Ev (fun f => larchlaw05_EventAhead.l0 f y r (r.length : Int) x true (i : Int)) v
  | 0, i, x, hd, hx, hq => by
    refine Ev.succ ((hc x hx fun q h => hq q (by omega)).congr fun f => ?_)
    simp only [larchlaw05_EventAhead.l0]
    rw [if_neg (by omega)]
  | d + 1, i, x, hd, hx, hq => by
    have hs := rdL9_set x (i : Int)
    simp only [Int.toNat_natCast] at hs
    refine Ev.succ ((ah_l1 y r v hn hA i (by omega) r.length 0 (x.set i (List.replicate r.length false)) (by omega) (by simpa using hx) (fun q h => ?_) ⟨?_, fun t ht => by omega⟩ (fun x' h1 h2 => ah_l0 hn hA hc d (i + 1) x' (by omega) h1 h2)).congr fun f => ?_)
    · obtain ⟨a, b⟩ := hq q h
      unfold Row9
      rw [hs _ _ (by omega) (by omega), if_neg (by omega)]
      exact ⟨a, b⟩
    · rw [hs _ _ (by omega) (by omega), if_pos rfl, List.length_replicate]
    · simp only [larchlaw05_EventAhead.l0]
      rw [if_pos (by omega), if_pos (by omega), if_pos (by omega), if_pos (by omega), if_pos (by omega), Int.toNat_natCast, Int.toNat_natCast]
      rfl
theorem ah_l4 (hn : r.length ≤ 60) (hS : Seq y r y.length) (hlt : ∀ q : Int, 0 ≤ q → q < r.length → (J38 r q).f4 = -1 ∨ (J38 r q).f3 < (J38 r q).f4) (x : List (List Bool)) (hx : x.length = r.length) (hq : ∀ q : Nat, q < r.length → Row9 r x q r.length) (b : Bool) (i k : Nat) (hi : i < r.length) (hk : k < r.length)
    (hc : Ev (fun f => larchlaw05_EventAhead.l3 f y r (r.length : Int) x b (i : Int) (((k + 1 : Nat)) : Int)) v) : ∀ d (m : Nat), m + d = r.length → Ev (fun f => larchlaw05_EventAhead.l4 f y r (r.length : Int) x b (i : Int) (k : Int) (m : Int)) v
  | 0, m, hd => by
    refine Ev.succ (hc.congr fun f => ?_)
    simp only [larchlaw05_EventAhead.l4]
    rw [if_neg (by omega), wrap_succ (by omega)]
  | d + 1, m, hd => by
    obtain ⟨li, ri⟩ := hq i hi
    obtain ⟨lk, rk⟩ := hq k hk
    refine Ev.succ ((ah_l4 hn hS hlt x hx hq b i k hi hk hc d (m + 1) (by omega)).congr fun f => ?_)
    simp only [larchlaw05_EventAhead.l4]
    rw [if_pos (by omega), if_pos (by omega), if_pos (by omega), if_pos (by omega), if_pos (by omega), ri k hk, wrap_succ (by omega)]
    by_cases h1 : aheadB (J38 r (i : Int)) (J38 r (k : Int)) = true
    · rw [if_pos h1, if_pos (by omega), if_pos (by omega), if_pos (by omega), rk m (by omega)]
      by_cases h2 : aheadB (J38 r (k : Int)) (J38 r (m : Int)) = true
      · rw [if_pos h2, if_pos (by omega), ri m (by omega), if_pos]
        rw [aheadB_iff] at h1 h2 ⊢
        have := hlt k (by omega) (by omega)
        omega
      · rw [if_neg h2]
    · rw [if_neg h1]
theorem ah_l3 (hn : r.length ≤ 60) (hS : Seq y r y.length) (hlt : ∀ q : Int, 0 ≤ q → q < r.length → (J38 r q).f4 = -1 ∨ (J38 r q).f3 < (J38 r q).f4) (x : List (List Bool)) (hx : x.length = r.length) (hq : ∀ q : Nat, q < r.length → Row9 r x q r.length) (i : Nat) (hi : i < r.length) (b0 : Bool)
    (hc : ∀ b : Bool, (b = true ↔ b0 = true ∧ ∀ k : Nat, i < k → k < r.length → aheadB (J38 r (i : Int)) (J38 r (k : Int)) = true) → Ev (fun f => larchlaw05_EventAhead.l2 f y r (r.length : Int) x b (((i + 1 : Nat)) : Int)) v) : ∀ d (k : Nat) (b : Bool), k + d = r.length → (b = true ↔ b0 = true ∧ ∀ k' : Nat, i < k' → k' < k → aheadB (J38 r (i : Int)) (J38 r (k' : Int)) = true) →
    Ev (fun f => larchlaw05_EventAhead.l3 f y r (r.length : Int) x b (i : Int) (k : Int)) v
  | 0, k, b, hd, hb => by
    have e : k = r.length := by omega
    rw [e] at hb
    refine Ev.succ ((hc b hb).congr fun f => ?_)
    simp only [larchlaw05_EventAhead.l3]
    rw [if_neg (by omega), wrap_succ (by omega)]
  | d + 1, k, b, hd, hb => by
    obtain ⟨li, ri⟩ := hq i hi
    obtain ⟨a, ha⟩ : ∃ a, a = aheadB (J38 r (i : Int)) (J38 r (k : Int)) := ⟨_, rfl⟩
    -- behind the three tests
    have main : Ev (fun f => larchlaw05_EventAhead.j4 f y r (r.length : Int) x b (i : Int) (k : Int) false) v := by
      by_cases hik : i < k
      · have j5t : Ev (fun f => larchlaw05_EventAhead.j5 f y r (r.length : Int) x b (i : Int) (k : Int) (!a)) v := by
          cases h : a with
          | true =>
            refine Ev.succ (Ev.succ ((ah_l4 y r v hn hS hlt x hx hq b i k hi (by omega) (ah_l3 hn hS hlt x hx hq i hi b0 hc d (k + 1) b (by omega) ?_) r.length 0 (by omega)).congr fun f => ?_))
            · rw [hb]
              constructor
              · rintro ⟨h1, h2⟩
                refine ⟨h1, fun k' a1 a2 => ?_⟩
                by_cases e : k' = k
                · rw [e, ← ha, h]
                · exact h2 k' a1 (by omega)
              · rintro ⟨h1, h2⟩
                exact ⟨h1, fun k' a1 a2 => h2 k' a1 (by omega)⟩
            · simp only [larchlaw05_EventAhead.j5, larchlaw05_EventAhead.j6]
              rfl
          | false =>
            refine Ev.succ (Ev.succ ((ah_l4 y r v hn hS hlt x hx hq false i k hi (by omega) (ah_l3 hn hS hlt x hx hq i hi b0 hc d (k + 1) false (by omega) ?_) r.length 0 (by omega)).congr fun f => ?_))
            · refine ⟨fun h1 => (by cases h1), fun h1 => ?_⟩
              have := h1.2 k hik (by omega)
              rw [← ha, h] at this
              cases this
            · simp only [larchlaw05_EventAhead.j5, larchlaw05_EventAhead.j6]
              rfl
        refine Ev.succ (j5t.congr fun f => ?_)
        simp only [larchlaw05_EventAhead.j4]
        rw [if_neg (by decide), if_pos (by omega), if_pos (by omega), if_pos (by omega), if_pos (by omega), if_pos (by omega), ri k (by omega), ← ha]
      · refine Ev.succ (Ev.succ (Ev.succ ((ah_l4 y r v hn hS hlt x hx hq b i k hi (by omega) (ah_l3 hn hS hlt x hx hq i hi b0 hc d (k + 1) b (by omega) ?_) r.length 0 (by omega)).congr fun f => ?_)))
        · rw [hb]
          constructor
          · rintro ⟨h1, h2⟩
            exact ⟨h1, fun k' a1 a2 => by omega⟩
          · rintro ⟨h1, h2⟩
            exact ⟨h1, fun k' a1 a2 => by omega⟩
        · simp only [larchlaw05_EventAhead.j4, larchlaw05_EventAhead.j5, larchlaw05_EventAhead.j6]
          rw [if_neg (by decide), if_neg (by omega), if_neg (by decide)]
          rfl
    refine Ev.succ (main.congr fun f => ?_)
    simp only [larchlaw05_EventAhead.l3]
    rw [if_pos (by omega), if_pos (by omega), if_pos (by omega), if_pos (by omega), if_pos (by omega)]
    by_cases ht : (J38 r (i : Int)).f0 = (J38 r (k : Int)).f0
    · rw [if_pos ht]
      by_cases hik : i < k
      · have h1 := hS.th (i : Int) (k : Int) (by omega) (by omega) (by omega) ht
        have h2 : aheadB (J38 r (i : Int)) (J38 r (k : Int)) = true := by rw [aheadB_iff]; exact h1
        rw [if_pos (by omega), if_pos (by omega), if_pos (by omega), ri k (by omega), h2]
        rfl
      · rw [if_neg (by omega)]
    · rw [if_neg ht]
theorem ah_l2 (hy : y.length ≤ 100000) (hn : r.length ≤ 60) (hE : event_Check.f y = some 0) (hA : event_Calls.f y = some (r, 0)) (own : Nat → Int) (hO : Own r y.length own) (hS : Seq y r y.length) (x : List (List Bool)) (hx : x.length = r.length) (hq : ∀ q : Nat, q < r.length → Row9 r x q r.length) : ∀ d (i : Nat) (b : Bool), i + d = r.length → (b = true ↔ ∀ i' k : Nat, i' < i → i' < k → k < r.length → aheadB (J38 r (i' : Int)) (J38 r (k : Int)) = true) →
    Ev (fun f => larchlaw05_EventAhead.l2 f y r (r.length : Int) x b (i : Int)) true
  | 0, i, b, hd, hb => by
    have e : i = r.length := by omega
    obtain ⟨b', h1, h2⟩ := row_val y hy hE r own hO hS
    have hbb : b' = b := by
      apply Bool.eq_iff_iff.mpr
      rw [h2, hb]
      constructor
      · intro h i' k a1 a2 a3
        exact h i' k (by omega) (by omega) (by omega)
      · intro h i' k a0 a1 a2
        have := h i'.toNat k.toNat (by omega) (by omega) (by omega)
        rwa [Int.toNat_of_nonneg (by omega), Int.toNat_of_nonneg (by omega)] at this
    subst hbb
    have hlast : event_Ahead.f y (r.length : Int) 0 = some (false, 1) := by
      unfold event_Ahead.f
      rw [hA]
      simp only [Option.bind_some, if_true]
      rw [if_neg (by omega), if_neg (by omega), if_pos (by omega)]
    refine Ev.succ (Ev.congr (g := fun f => (event_Row.f f y).bind fun t => if t.2 = 0 then (if (t.1 == b') = true then some true else none) else none) ?_ fun f => ?_)
    · refine Ev.bind h1 ?_
      simp only [if_true, beq_self_eq_true]
      exact Ev.const _
    · simp only [larchlaw05_EventAhead.l2]
      rw [if_neg (by omega), hlast]
      rfl
  | d + 1, i, b, hd, hb => by
    obtain ⟨li, ri⟩ := hq i (by omega)
    have hself : aheadB (J38 r (i : Int)) (J38 r (i : Int)) = false := by
      have := hO.lt (i : Int) (by omega) (by omega)
      cases h : aheadB (J38 r (i : Int)) (J38 r (i : Int)) with
      | false => rfl
      | true =>
        rw [aheadB_iff] at h
        omega
    refine Ev.succ ((ah_l3 y r true hn hS hO.lt x hx hq i (by omega) b (fun b' hb' => ah_l2 hy hn hE hA own hO hS x hx hq d (i + 1) b' (by omega) ?_) r.length 0 b (by omega) ⟨fun h => ⟨h, fun k' a1 a2 => by omega⟩, fun h => h.1⟩).congr fun f => ?_)
    · rw [hb', hb]
      constructor
      · rintro ⟨h1, h2⟩ i' k a1 a2 a3
        by_cases e : i' = i
        · rw [e]; exact h2 k (by omega) a3
        · exact h1 i' k (by omega) a2 a3
      · intro h
        exact ⟨fun i' k a1 a2 a3 => h i' k (by omega) a2 a3, fun k a1 a2 => h i k (by omega) a1 a2⟩
    · simp only [larchlaw05_EventAhead.l2]
      rw [if_pos (by omega), if_pos (by omega), if_pos (by omega), if_pos (by omega), ri i (by omega), hself, if_neg (by decide)]
      rfl
end
theorem mn_val (n m : Nat) : mn (n : Int) (m : Int) = ((min n m : Nat) : Int) := by
  unfold mn
  split <;> omega
theorem ahead_pure : EventAheadPure := by
  intro l0 hl0 hp
  refine Ev.ex (f := fun k => larchlaw05_EventAhead.f k l0) ?_
  obtain ⟨y, hy⟩ : ∃ y, y = l0.take (min l0.length 60) := ⟨_, rfl⟩
  have hyl : y.length ≤ 60 := by rw [hy, List.length_take]; omega
  have hyp : ∀ e ∈ y, e.f3.f3.length ≤ 1048576 := fun e he => hp e (List.mem_of_mem_take (by rw [hy] at he; exact he))
  have hm := mn_val l0.length 60
  have step : ∀ k, larchlaw05_EventAhead.f k l0 = ((event_Calls.f y).bind fun bt491 => (if bt491.2 = 0 then (if 0 ≤ (bt491.1.length : Int) then (if ((bt491.1.length : Int) : Int).toNat ≤ 11728124029610 then (larchlaw05_EventAhead.l0 k y bt491.1 (bt491.1.length : Int) (List.replicate ((bt491.1.length : Int) : Int).toNat []) true 0) else (none)) else (none)) else ((event_Ahead.f y 0 0).bind fun bt495 => (if bt495.2 = bt491.2 then (some ((bt491.1.length : Int) == 0)) else (none))))) := by
    intro k
    unfold larchlaw05_EventAhead.f
    rw [known_ok3]
    simp only [Option.bind_some, if_true]
    rw [show (60 : Int) = ((60 : Nat) : Int) from rfl, hm, if_pos (by omega), if_pos (by omega), Int.toNat_natCast, ← hy]
  obtain ⟨c, hE, hR, -⟩ := check_both y
  by_cases e0 : c = 0
  · subst e0
    obtain ⟨hl, hchk, r, own, hA, hB, hC, hr, hO, hG⟩ := all_of y hyp hE
    have hS := seq_of y r hE hl hA
    refine (ah_l0 y r true (by omega) hA (fun x' h1 h2 => ah_l2 y r hl (by omega) hE hA own hO hS x' h1 h2 r.length 0 true (by omega) ⟨fun _ i' k a1 => by omega, fun _ => rfl⟩) r.length 0 (List.replicate r.length []) (by omega) (by simp) (fun q h => by omega)).congr fun k => ?_
    rw [step, hA]
    simp only [Option.bind_some, if_true]
    rw [if_pos (by omega), if_pos (by omega)]
    rfl
  · obtain ⟨hA, -⟩ := bad_of y c hE e0
    refine (Ev.const true).congr fun k => ?_
    rw [step, hA]
    simp only [Option.bind_some, if_neg e0]
    have : event_Ahead.f y 0 0 = some (false, c) := by
      unfold event_Ahead.f
      rw [hA]
      simp only [Option.bind_some, if_neg e0]
    rw [this]
    simp
theorem eventAhead_holds : Rows.EventAheadUptoSaid := EventAhead_of ahead_pure
end Go.Proofs.Ytagdkmcgepidoaa.P
#print axioms Go.Proofs.Ytagdkmcgepidoaa.P.eventAhead_holds
