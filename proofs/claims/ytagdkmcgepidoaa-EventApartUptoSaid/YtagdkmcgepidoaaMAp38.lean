/- P.eventApart_holds, part 39 of 41: the contracts of the Go functions that the law calls, its own walk, and its plain law, for every input that the statement speaks of. -/
import Derived.Test.YtagdkmcgepidoaaMAp36
import Derived.Test.YtagdkmcgepidoaaMAp33
import Derived.Test.YtagdkmcgepidoaaMAp28
import Derived.Test.YtagdkmcgepidoaaMAp37
import Derived.Test.YtagdkmcgepidoaaMAp5
set_option linter.unusedVariables false
set_option linter.unusedSimpArgs false
/- P15 -/
namespace Go.Proofs.Ytagdkmcgepidoaa.P
open Go.RowKit Go.Proofs.YtagdkmcgepidoaaW.PrintWords Go.Proofs.YtagdkmcgepidoaaW.PrintLast Go.Proofs.YtagdkmcgepidoaaW.PrintMore
theorem cont_of {h : List S67} {r : List S38} {own : Nat → Int} (A : All h r own) : Cont h r :=
  cont_go h h.length 0 _ _ _ [] r (by simp) (by simp) (by simp) A.chk (fun t _ _ ht => by rw [rdOf_rep] at ht; cases ht) ⟨fun q _ q1 => by simp at q1; omega, fun q _ q1 => by simp at q1; omega, fun q _ q1 => by simp at q1; omega⟩ A.go
theorem rebuild_go {h : List S67} {r : List S38} {own : Nat → Int} (A : All h r own) : ∀ d (j : Nat) (fr : Int) (set : List Bool) (out : List S67), j + d = r.length → set.length = h.length → out.length = h.length →
    (∀ p : Int, 0 ≤ p → p < h.length → rdOf false set p = true → own p.toNat < j) → (∀ q : Int, (j : Int) ≤ q → q < r.length → fr < (J38 r q).f3) → ∃ o, evL h.length (r.drop j) fr set out = some o
  | 0, j, fr, set, out, hd, _, _, _, _ => by
    rw [List.drop_eq_nil_of_le (by omega)]
    exact ⟨out, rfl⟩
  | d + 1, j, fr, set, out, hd, hs, ho, hin, hfr => by
    have hC := cont_of A
    rw [drop38 r j (by omega)]
    obtain ⟨⟨f0, f1⟩, f2⟩ := A.ow.fr (j : Int) (by omega) (by omega)
    have ht := A.ow.tw (j : Int) (by omega) (by omega)
    have hlt := A.ow.lt (j : Int) (by omega) (by omega)
    have hpn := hC.pn (j : Int) (by omega) (by omega)
    have h1 := hfr (j : Int) (Int.le_refl _) (by omega)
    have hmo : ∀ q : Int, ((j + 1 : Nat) : Int) ≤ q → q < r.length → (J38 r (j : Int)).f3 < (J38 r q).f3 := fun q q0 q1 => A.sq.mo (j : Int) q (by omega) (by omega) q1
    generalize J38 r (j : Int) = c at *
    unfold evL
    have hk : okAt h.length set c.f3 = true := by
      rw [okAt_iff]
      refine ⟨⟨f0, f1⟩, ?_⟩
      cases hh : rdOf false set c.f3 with
      | false => rfl
      | true => have := hin c.f3 f0 f1 hh; omega
    have hs1 : ∀ i : Int, 0 ≤ i → rdOf false (set.set c.f3.toNat true) i = if i = c.f3 then true else rdOf false set i := fun i hi => rdOf_set set c.f3 i true ⟨f0, by rw [hs]; exact f1⟩ hi
    rw [if_neg (by omega), if_pos hk]
    by_cases h4 : c.f4 = -1
    · rw [if_pos h4, if_pos (by rw [hpn h4]; rfl)]
      exact rebuild_go A d (j + 1) _ _ _ (by omega) (by simpa using hs) (by simpa using ho) (fun p p0 p1 hp => by
        rw [hs1 p p0] at hp
        by_cases e : p = c.f3
        · rw [e, f2]; omega
        · rw [if_neg e] at hp
          have := hin p p0 p1 hp
          omega) hmo
    · rw [if_neg h4]
      rcases ht with ht | ⟨⟨t0, t1⟩, t2⟩
      · exact absurd ht h4
      rcases hlt with hlt | hlt
      · exact absurd hlt h4
      have hk2 : okAt h.length (set.set c.f3.toNat true) c.f4 = true := by
        rw [okAt_iff]
        refine ⟨⟨t0, t1⟩, ?_⟩
        rw [hs1 _ t0, if_neg (by omega)]
        cases hh : rdOf false set c.f4 with
        | false => rfl
        | true => have := hin c.f4 t0 t1 hh; omega
      rw [if_neg (by omega), if_pos hk2]
      have hs2 : ∀ i : Int, 0 ≤ i → rdOf false ((set.set c.f3.toNat true).set c.f4.toNat true) i = if i = c.f4 then true else rdOf false (set.set c.f3.toNat true) i := fun i hi => rdOf_set _ c.f4 i true ⟨t0, by rw [List.length_set, hs]; exact t1⟩ hi
      exact rebuild_go A d (j + 1) _ _ _ (by omega) (by simpa using hs) (by simpa using ho) (fun p p0 p1 hp => by
        rw [hs2 p p0] at hp
        by_cases e2 : p = c.f4
        · rw [e2, t2]; omega
        rw [if_neg e2, hs1 p p0] at hp
        by_cases e : p = c.f3
        · rw [e, f2]; omega
        · rw [if_neg e] at hp
          have := hin p p0 p1 hp
          omega) hmo
theorem ext67 (a b : List S67) (hl : a.length = b.length) (h : ∀ p : Int, 0 ≤ p → p < b.length → J67 a p = J67 b p) : a = b := by
  apply List.ext_getElem hl
  intro i h1 h2
  have := h (i : Int) (by omega) (by omega)
  unfold J67 at this
  rw [Int.toNat_natCast, List.getD_eq_getElem?_getD, List.getD_eq_getElem?_getD, List.getElem?_eq_getElem h1, List.getElem?_eq_getElem h2] at this
  exact this
theorem mem38 (r : List S38) (q : Int) (q0 : 0 ≤ q) (q1 : q < r.length) : J38 r q ∈ r := rd38_mem' r q ⟨q0, q1⟩
theorem rebuild {h : List S67} {r : List S38} {own : Nat → Int} (A : All h r own) : evL h.length r (-1) (List.replicate h.length false) (List.replicate h.length z67) = some h := by
  obtain ⟨o, ho⟩ := rebuild_go A r.length 0 (-1) (List.replicate h.length false) (List.replicate h.length z67) (by omega) (by simp) (by simp) (fun p p0 p1 hp => by rw [rdOf_rep] at hp; cases hp) (fun q q0 q1 => by
    have := (A.ow.fr q (by omega) q1).1.1
    omega)
  rw [List.drop_zero] at ho
  obtain ⟨⟨s', hF⟩, -, -, -⟩ := fill_L h.length r [] (-1) _ _ o (fill_start h.length) ho
  rw [List.nil_append] at hF
  have hC := cont_of A
  rw [ho]
  congr 1
  refine ext67 o h hF.lo fun p p0 p1 => ?_
  by_cases hf : (J67 h p).f1 = true
  · obtain ⟨q, ⟨q0, q1⟩, q2⟩ := A.sq.e1 p.toNat (by omega) (by rw [Int.toNat_of_nonneg p0]; exact hf)
    rw [Int.toNat_of_nonneg p0] at q2
    have h4 : (J38 r q).f4 ≠ -1 := by omega
    have := (hF.pt ((J38 r q).f4, retE (J38 r q)) (List.mem_flatMap.2 ⟨_, mem38 r q q0 q1, by unfold putsOf; rw [if_neg h4]; simp⟩)).2.2
    rw [← q2, hC.rt q q0 q1 h4]
    exact this
  · obtain ⟨q, ⟨q0, q1⟩, q2⟩ := A.sq.e0 p.toNat (by omega) (by rw [Int.toNat_of_nonneg p0]; simpa using hf)
    rw [Int.toNat_of_nonneg p0] at q2
    have := (hF.pt ((J38 r q).f3, invE (J38 r q)) (List.mem_flatMap.2 ⟨_, mem38 r q q0 q1, by unfold putsOf; simp⟩)).2.2
    rw [← q2, hC.iv q q0 q1]
    exact this
theorem chkL_kind (e : S67) (Q : List S67) : ∀ (P : List S67) (op : List Bool) (ops : List S33), chkL (P ++ e :: Q) op ops = 0 → e.f1 = false → 1 ≤ e.f2.f0
  | [], op, ops, h, hf => by
    rw [List.nil_append, chkL_cons] at h
    have := h.1.2.2.2
    unfold evOk at this
    rw [if_neg (by rw [hf]; decide)] at this
    simp only [Bool.and_eq_true, decide_eq_true_eq] at this
    exact this.1
  | x :: P, op, ops, h, hf => by
    rw [List.cons_append, chkL_cons] at h
    exact chkL_kind e Q P _ _ h.2 hf
theorem kind_of {h : List S67} {r : List S38} {own : Nat → Int} (A : All h r own) (p : Nat) (hp : p < h.length) (hf : (J67 h (p : Int)).f1 = false) : 1 ≤ (J67 h (p : Int)).f2.f0 := by
  have hch : chkL h (List.replicate 64 false) (List.replicate 64 z33) = 0 := by
    rw [← A.chk, chkGo_L h _ 0 _ _ (by omega)]; rfl
  have hs : h = h.take p ++ J67 h (p : Int) :: h.drop (p + 1) := by rw [← drop67 h p hp, List.take_append_drop]
  rw [hs] at hch
  exact chkL_kind _ _ _ _ _ hch hf
theorem same_enum {n : Nat} {cs r : List S38} {set : List Bool} {o : List S67} {own : Nat → Int} (hF : Fill n (cs.flatMap putsOf) set o) (hs : (cs.map (·.f3)).Pairwise (· < ·)) (A : All o r own) : r.map (·.f3) = cs.map (·.f3) := by
  have hC := cont_of A
  refine sorted_eq _ _ ?_ hs fun x => ⟨fun hx => ?_, fun hx => ?_⟩
  · rw [List.pairwise_iff_getElem]
    intro i k hi hk hik
    simp only [List.length_map] at hi hk
    rw [List.getElem_map, List.getElem_map, rd38_get r i hi, rd38_get r k hk]
    exact A.sq.mo (i : Int) (k : Int) (by omega) (by omega) (by omega)
  · obtain ⟨c, hc, rfl⟩ := List.mem_map.1 hx
    obtain ⟨i, hi, rfl⟩ := List.mem_iff_getElem.1 hc
    rw [rd38_get r i hi]
    obtain ⟨⟨f0, f1⟩, -⟩ := A.ow.fr (i : Int) (by omega) (by omega)
    have hiv := hC.iv (i : Int) (by omega) (by omega)
    obtain ⟨c, hcc⟩ : ∃ c, c = J38 r (i : Int) := ⟨_, rfl⟩
    rw [← hcc] at f0 f1 hiv ⊢
    have hk := kind_of A c.f3.toNat (by omega) (by rw [Int.toNat_of_nonneg f0, hiv]; rfl)
    rw [Int.toNat_of_nonneg f0] at hk
    cases hh : rdOf false set c.f3 with
    | false =>
      have := hF.un c.f3 f0 (by rw [← hF.lo]; exact f1) hh
      rw [this] at hk
      exact absurd hk (by decide)
    | true =>
      obtain ⟨e, he⟩ := hF.us c.f3 f0 (by rw [← hF.lo]; exact f1) hh
      have hv := (hF.pt _ he).2.2
      obtain ⟨c', hc', hm⟩ := List.mem_flatMap.1 he
      unfold putsOf at hm
      rcases List.mem_cons.1 hm with hm | hm
      · injection hm with hm1 hm2
        exact List.mem_map.2 ⟨c', hc', hm1.symm⟩
      · split at hm
        · simp at hm
        · simp only [List.mem_singleton] at hm
          injection hm with hm1 hm2
          rw [hm2] at hv
          simp only at hv
          rw [hv] at hiv
          have := congrArg (·.f1) hiv
          simp [invE, retE] at this
  · obtain ⟨c, hc, rfl⟩ := List.mem_map.1 hx
    obtain ⟨⟨h0, h1⟩, -, h3⟩ := hF.pt (c.f3, invE c) (List.mem_flatMap.2 ⟨c, hc, by unfold putsOf; simp⟩)
    simp only at h0 h1 h3
    obtain ⟨q, ⟨q0, q1⟩, q2⟩ := A.sq.e0 c.f3.toNat (by rw [hF.lo]; omega) (by rw [Int.toNat_of_nonneg h0, h3]; rfl)
    rw [Int.toNat_of_nonneg h0] at q2
    exact List.mem_map.2 ⟨_, mem38 r q q0 q1, q2⟩
theorem same_call {n : Nat} {cs r : List S38} {set : List Bool} {o : List S67} {own : Nat → Int} (hF : Fill n (cs.flatMap putsOf) set o) (hs : (cs.map (·.f3)).Pairwise (· < ·)) (hb : ∀ c ∈ cs, (c.f4 = -1 ∧ bareB c.f2 = true) ∨ (c.f4 ≠ -1 ∧ c.f3 < c.f4)) (A : All o r own) (q : Int) (q0 : 0 ≤ q) (q1 : q < cs.length) : (J38 r q).f3 = (J38 cs q).f3 ∧ callSame (J38 r q) (J38 cs q) = decide ((J38 r q).f4 = (J38 cs q).f4) := by
  have hC := cont_of A
  have he := same_enum hF hs A
  have hl : r.length = cs.length := by simpa using congrArg List.length he
  have h3 : (J38 r q).f3 = (J38 cs q).f3 := by
    have := congrArg (fun l => l[q.toNat]?) he
    simp only [List.getElem?_map] at this
    rw [List.getElem?_eq_getElem (by omega), List.getElem?_eq_getElem (by omega)] at this
    simp only [Option.map_some, Option.some.injEq] at this
    rw [rd38_get r _ (by omega), rd38_get cs _ (by omega), Int.toNat_of_nonneg q0] at this
    exact this
  refine ⟨h3, ?_⟩
  have hm := mem38 cs q q0 q1
  have hiv := hC.iv q q0 (by omega)
  have hpt := (hF.pt ((J38 cs q).f3, invE (J38 cs q)) (List.mem_flatMap.2 ⟨_, hm, by unfold putsOf; simp⟩)).2.2
  simp only at hpt
  rw [h3, hpt] at hiv
  have hrt := hC.rt q q0 (by omega)
  have hpn := hC.pn q q0 (by omega)
  have hq2 : (J38 cs q).f4 ≠ -1 → J67 o (J38 cs q).f4 = retE (J38 cs q) := fun h4 => (hF.pt ((J38 cs q).f4, retE (J38 cs q)) (List.mem_flatMap.2 ⟨_, hm, by unfold putsOf; rw [if_neg h4]; simp⟩)).2.2
  have hbq := hb _ hm
  generalize J38 r q = a at *
  generalize J38 cs q = b at *
  have e0 : b.f0 = a.f0 := congrArg (·.f0) hiv
  have e1 : b.f1 = a.f1 := congrArg (·.f2) hiv
  by_cases h4 : a.f4 = b.f4
  · rw [decide_eq_true h4]
    have e2 : a.f2 = b.f2 := by
      by_cases hn : a.f4 = -1
      · rcases hbq with ⟨_, h⟩ | ⟨h, _⟩
        · rw [hpn hn, bare_z36 _ h]
        · exact absurd (h4 ▸ hn) h
      · have k1 := hrt hn
        rw [h4, hq2 (h4 ▸ hn)] at k1
        exact (congrArg (·.f3) k1).symm
    obtain ⟨a0, a1, a2, a3, a4⟩ := a
    obtain ⟨b0, b1, b2, b3, b4⟩ := b
    simp only at e0 e1 e2 h3 h4
    subst e0 e1 e2 h3 h4
    unfold callSame sameRetB
    simp [opSame, pairsGo_refl]
  · rw [decide_eq_false h4]
    unfold callSame
    have : (a.f4 == b.f4) = false := by simpa using h4
    rw [this]
    simp
end Go.Proofs.Ytagdkmcgepidoaa.P
