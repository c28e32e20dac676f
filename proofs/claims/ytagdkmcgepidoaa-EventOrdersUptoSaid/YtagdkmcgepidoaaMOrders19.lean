/- P.eventOrders_holds, part 20 of 22: the contracts of the Go functions that the law calls, its own walk, and its plain law, for every input that the statement speaks of. -/
import Derived.Test.YtagdkmcgepidoaaMOrders13
import Derived.Test.YtagdkmcgepidoaaMOrders11
import Derived.Test.YtagdkmcgepidoaaMOrders14
import Derived.Test.YtagdkmcgepidoaaMOrders18
import Derived.Test.YtagdkmcgepidoaaMOrders4
import Derived.Test.YtagdkmcgepidoaaMOrders7
import Derived.Test.YtagdkmcgepidoaaMOrders9
import Derived.Test.YtagdkmcgepidoaaMOrders10
import Derived.Test.YtagdkmcgepidoaaMOrders12
set_option linter.unusedVariables false
set_option linter.unusedSimpArgs false
/- P3 -/
namespace Go.Proofs.Ytagdkmcgepidoaa.P
open Go.RowKit Go.Proofs.YtagdkmcgepidoaaW.PrintWords Go.Proofs.YtagdkmcgepidoaaW.PrintLast Go.Proofs.YtagdkmcgepidoaaW.PrintMore
theorem known_ok3 : larchlaw05_known.f = some true := by kernel_rfl
end Go.Proofs.Ytagdkmcgepidoaa.P
/- P4 -/
namespace Go.Proofs.Ytagdkmcgepidoaa.P
open Go.RowKit Go.Proofs.YtagdkmcgepidoaaW.PrintWords Go.Proofs.YtagdkmcgepidoaaW.PrintLast Go.Proofs.YtagdkmcgepidoaaW.PrintMore
theorem chk_step {l0 : List S67} {d j : Nat} {op : List Bool} {ops : List S33} (h : chkGo l0 (d + 1) j op ops = 0) :
    (0 ≤ (J67 l0 (j : Int)).f0 ∧ (J67 l0 (j : Int)).f0 < 64) ∧ (J67 l0 (j : Int)).f1 = rdOf false op (J67 l0 (j : Int)).f0 ∧ evOk (J67 l0 (j : Int)) ops = true ∧ chkGo l0 d (j + 1) (op.set (J67 l0 (j : Int)).f0.toNat (!(J67 l0 (j : Int)).f1)) (ops.set (J67 l0 (j : Int)).f0.toNat (J67 l0 (j : Int)).f2) = 0 := by
  unfold chkGo at h
  split at h
  · omega
  rename_i h1
  split at h
  rotate_left
  · omega
  rename_i h2
  exact ⟨by omega, Decidable.byContradiction fun hh => h1 (.inr (.inr hh)), h2, h⟩
theorem rd38_set (x : List S38) (a i : Int) (v : S38) (ha : 0 ≤ a ∧ a < x.length) (hi : 0 ≤ i) : J38 (x.set a.toNat v) i = if i = a then v else J38 x i := by
  unfold J38
  rw [List.getD_eq_getElem?_getD, List.getElem?_set]
  by_cases e : i = a
  · subst e
    rw [if_pos rfl, if_pos (by omega), if_pos rfl]
    rfl
  · rw [if_neg (by omega), if_neg e, List.getD_eq_getElem?_getD]
theorem rd38_app (x : List S38) (v : S38) (i : Int) (hi : 0 ≤ i ∧ i ≤ x.length) : J38 (x ++ [v]) i = if i = x.length then v else J38 x i := by
  unfold J38
  rw [List.getD_eq_getElem?_getD]
  by_cases e : i = x.length
  · rw [if_pos e, List.getElem?_append_right (by omega), show i.toNat - x.length = 0 by omega]
    rfl
  · rw [if_neg e, List.getElem?_append_left (by omega), List.getD_eq_getElem?_getD]
structure Own (out : List S38) (j : Nat) (own : Nat → Int) : Prop where
  fr : ∀ q : Int, 0 ≤ q → q < out.length → (0 ≤ (J38 out q).f3 ∧ (J38 out q).f3 < j) ∧ own (J38 out q).f3.toNat = q
  tw : ∀ q : Int, 0 ≤ q → q < out.length → (J38 out q).f4 = -1 ∨ ((0 ≤ (J38 out q).f4 ∧ (J38 out q).f4 < j) ∧ own (J38 out q).f4.toNat = q)
  al : ∀ i : Nat, i < j → (0 ≤ own i ∧ own i < out.length) ∧ ((J38 out (own i)).f3 = i ∨ (J38 out (own i)).f4 = i)
  lt : ∀ q : Int, 0 ≤ q → q < out.length → (J38 out q).f4 = -1 ∨ (J38 out q).f3 < (J38 out q).f4
def resp (l0 : List S67) (p : Nat → Bool) : Nat → Nat → (Int → Bool) → Prop
  | 0, _, _ => True
  | d + 1, j, lp => if (J67 l0 (j : Int)).f1 = true then p j = lp (J67 l0 (j : Int)).f0 ∧ resp l0 p d (j + 1) lp else resp l0 p d (j + 1) (fun t => if t = (J67 l0 (j : Int)).f0 then p j else lp t)
theorem own_go (l0 : List S67) : ∀ d (j : Nat) (op : List Bool) (ops : List S33) (last : List Int) (out r : List S38) (own : Nat → Int), op.length = 64 → last.length = 64 → chkGo l0 d j op ops = 0 →
    (∀ t : Int, 0 ≤ t → t < 64 → rdOf false op t = true → (0 ≤ rd last t ∧ rd last t < out.length) ∧ (J38 out (rd last t)).f0 = t ∧ (J38 out (rd last t)).f4 = -1) → Own out j own → callsGo l0 d j last out = some r →
    ∃ own' : Nat → Int, (∀ i, i < j → own' i = own i) ∧ Own r (j + d) own' ∧ ∀ g : Int → Bool, ∀ lp : Int → Bool, (∀ t : Int, 0 ≤ t → t < 64 → lp t = g (rd last t)) → resp l0 (fun i => g (own' i)) d j lp
  | 0, j, op, ops, last, out, r, own, _, _, _, _, hO, hr => by
    simp only [callsGo, Option.some.injEq] at hr
    subst hr
    exact ⟨own, fun _ _ => rfl, hO, fun _ _ _ => trivial⟩
  | d + 1, j, op, ops, last, out, r, own, h1, h2, hc, hop, hO, hr => by
    obtain ⟨hf, hf1, -, hc'⟩ := chk_step hc
    obtain ⟨e, he⟩ : ∃ e, e = J67 l0 (j : Int) := ⟨_, rfl⟩
    simp only [callsGo, ← he] at hr
    rw [← he] at hf hf1 hc'
    rw [if_pos hf] at hr
    by_cases hb : e.f1 = true
    · obtain ⟨hq, hq0, hq4⟩ := hop e.f0 hf.1 hf.2 (by rw [← hf1]; exact hb)
      obtain ⟨q, hqe⟩ : ∃ q, q = rd last e.f0 := ⟨_, rfl⟩
      rw [if_pos hb] at hr
      rw [← hqe] at hq hq0 hq4 hr
      split at hr
      rotate_left
      · cases hr
      rename_i hg
      obtain ⟨v, hv⟩ : ∃ v : S38, v = ⟨(J38 out q).f0, (J38 out q).f1, e.f3, (J38 out q).f3, (j : Int)⟩ := ⟨_, rfl⟩
      rw [← hv] at hr
      have hv0 : v.f0 = e.f0 := by rw [hv]; exact hq0
      have hv3 : v.f3 = (J38 out q).f3 := by rw [hv]
      have hv4 : v.f4 = (j : Int) := by rw [hv]
      clear hv hg
      have rs : ∀ i : Int, 0 ≤ i → J38 (out.set q.toNat v) i = if i = q then v else J38 out i := fun i hi => rd38_set out q i v hq hi
      have hO' : Own (out.set q.toNat v) (j + 1) (fun i => if i = j then q else own i) := by
        refine ⟨fun i i0 i1 => ?_, fun i i0 i1 => ?_, fun i hi => ?_, fun i i0 i1 => ?_⟩
        rotate_left 3
        · rw [List.length_set] at i1
          rw [rs i i0]
          by_cases e1 : i = q
          · subst e1
            rw [if_pos rfl, hv3, hv4]
            exact .inr (hO.fr i i0 i1).1.2
          · rw [if_neg e1]
            exact hO.lt i i0 i1
        · rw [List.length_set] at i1
          rw [rs i i0]
          obtain ⟨a, b⟩ := hO.fr i i0 i1
          by_cases e1 : i = q
          · subst e1
            rw [if_pos rfl, hv3]
            exact ⟨by omega, by rw [if_neg (by omega)]; exact b⟩
          · rw [if_neg e1]
            exact ⟨by omega, by rw [if_neg (by omega)]; exact b⟩
        · rw [List.length_set] at i1
          rw [rs i i0]
          by_cases e1 : i = q
          · subst e1
            rw [if_pos rfl, hv4]
            right
            exact ⟨by omega, by rw [if_pos (by omega)]⟩
          · rw [if_neg e1]
            rcases hO.tw i i0 i1 with a | ⟨a, b⟩
            · exact .inl a
            · exact .inr ⟨by omega, by rw [if_neg (by omega)]; exact b⟩
        · rw [List.length_set]
          by_cases e2 : i = j
          · rw [if_pos e2, rs q hq.1, if_pos rfl, hv4]
            exact ⟨hq, .inr (by omega)⟩
          · rw [if_neg e2]
            obtain ⟨a, b⟩ := hO.al i (by omega)
            rw [rs _ a.1]
            refine ⟨a, ?_⟩
            by_cases e1 : own i = q
            · rw [if_pos e1, hv3]
              rw [e1] at b
              rcases b with b | b
              · exact .inl b
              · omega
            · rw [if_neg e1]
              exact b
      obtain ⟨own', hp, hO2, hR⟩ := own_go l0 d (j + 1) _ _ last _ r _ (by simpa using h1) h2 hc' (fun t t0 t1 ht => by
        rw [rdOf_set _ _ _ _ (by omega) t0] at ht
        by_cases e1 : t = e.f0
        · rw [if_pos e1, hb] at ht; simp at ht
        · rw [if_neg e1] at ht
          obtain ⟨a, b, c⟩ := hop t t0 t1 ht
          rw [List.length_set, rs _ a.1]
          have : rd last t ≠ q := fun hh => e1 (by rw [hh] at b; omega)
          rw [if_neg this]
          exact ⟨a, b, c⟩) hO' hr
      refine ⟨own', fun i hi => ?_, by rw [show j + (d + 1) = j + 1 + d by omega]; exact hO2, fun g lp hlp => ?_⟩
      · rw [hp i (by omega)]
        exact if_neg (by omega)
      · unfold resp
        rw [← he, if_pos hb]
        refine ⟨?_, hR g lp hlp⟩
        rw [hp j (by omega), hlp e.f0 hf.1 hf.2, ← hqe, if_pos rfl]
    · have hb' : e.f1 = false := by simpa using hb
      rw [if_neg hb] at hr
      split at hr
      rotate_left
      · cases hr
      obtain ⟨v, hv⟩ : ∃ v : S38, v = ⟨e.f0, e.f2, z36, (j : Int), -1⟩ := ⟨_, rfl⟩
      rw [← hv] at hr
      have hv0 : v.f0 = e.f0 := by rw [hv]
      have hv3 : v.f3 = (j : Int) := by rw [hv]
      have hv4 : v.f4 = -1 := by rw [hv]
      clear hv
      have rs : ∀ i : Int, 0 ≤ i ∧ i ≤ out.length → J38 (out ++ [v]) i = if i = out.length then v else J38 out i := fun i hi => rd38_app out v i hi
      have hO' : Own (out ++ [v]) (j + 1) (fun i => if i = j then (out.length : Int) else own i) := by
        refine ⟨fun i i0 i1 => ?_, fun i i0 i1 => ?_, fun i hi => ?_, fun i i0 i1 => ?_⟩
        rotate_left 3
        · rw [List.length_append, List.length_singleton] at i1
          rw [rs i (by omega)]
          by_cases e1 : i = out.length
          · rw [if_pos e1, hv4]
            exact .inl rfl
          · rw [if_neg e1]
            exact hO.lt i i0 (by omega)
        · rw [List.length_append, List.length_singleton] at i1
          rw [rs i (by omega)]
          by_cases e1 : i = out.length
          · rw [if_pos e1, hv3]
            exact ⟨by omega, by rw [if_pos (by omega)]; exact e1.symm⟩
          · rw [if_neg e1]
            obtain ⟨a, b⟩ := hO.fr i i0 (by omega)
            exact ⟨by omega, by rw [if_neg (by omega)]; exact b⟩
        · rw [List.length_append, List.length_singleton] at i1
          rw [rs i (by omega)]
          by_cases e1 : i = out.length
          · rw [if_pos e1, hv4]
            exact .inl rfl
          · rw [if_neg e1]
            rcases hO.tw i i0 (by omega) with a | ⟨a, b⟩
            · exact .inl a
            · exact .inr ⟨by omega, by rw [if_neg (by omega)]; exact b⟩
        · rw [List.length_append, List.length_singleton]
          by_cases e2 : i = j
          · rw [if_pos e2, rs _ (by omega), if_pos rfl, hv3]
            exact ⟨by omega, .inl (by omega)⟩
          · rw [if_neg e2]
            obtain ⟨a, b⟩ := hO.al i (by omega)
            rw [rs _ (by omega), if_neg (by omega)]
            exact ⟨by omega, b⟩
      obtain ⟨own', hp, hO2, hR⟩ := own_go l0 d (j + 1) _ _ (last.set e.f0.toNat (out.length : Int)) _ r _ (by simpa using h1) (by simpa using h2) hc' (fun t t0 t1 ht => by
        rw [rdOf_set _ _ _ _ (by omega) t0] at ht
        rw [rd_set _ _ _ _ (by omega) t0, List.length_append, List.length_singleton]
        by_cases e1 : t = e.f0
        · rw [if_pos e1, rs _ (by omega), if_pos rfl, hv0, hv4]
          exact ⟨by omega, e1.symm, rfl⟩
        · rw [if_neg e1] at ht
          obtain ⟨a, b, c⟩ := hop t t0 t1 ht
          rw [if_neg e1, rs _ (by omega), if_neg (by omega)]
          exact ⟨by omega, b, c⟩) hO' hr
      refine ⟨own', fun i hi => ?_, by rw [show j + (d + 1) = j + 1 + d by omega]; exact hO2, fun g lp hlp => ?_⟩
      · rw [hp i (by omega)]
        exact if_neg (by omega)
      · unfold resp
        rw [← he, if_neg hb]
        refine hR g _ fun t t0 t1 => ?_
        rw [rd_set _ _ _ _ (by omega) t0, hp j (by omega), if_pos rfl]
        split
        · rfl
        · exact hlp t t0 t1
theorem rdOf_rep (n : Nat) (t : Int) : rdOf false (List.replicate n false) t = false := by
  unfold rdOf
  rw [List.getD_eq_getElem?_getD, List.getElem?_replicate]
  split <;> rfl
end Go.Proofs.Ytagdkmcgepidoaa.P
/- P5 -/
namespace Go.Proofs.Ytagdkmcgepidoaa.P
open Go.RowKit Go.Proofs.YtagdkmcgepidoaaW.PrintWords Go.Proofs.YtagdkmcgepidoaaW.PrintLast Go.Proofs.YtagdkmcgepidoaaW.PrintMore
theorem all_of (l0 : List S67) (hp : ∀ e ∈ l0, e.f3.f3.length ≤ 1048576) (hE : event_Check.f l0 = some 0) : l0.length ≤ 100000 ∧ chkGo l0 l0.length 0 (List.replicate 64 false) (List.replicate 64 z33) = 0 ∧ ∃ (r : List S38) (own : Nat → Int),
    event_Calls.f l0 = some (r, 0) ∧ Ev (fun k => larchref05_Calls.f k l0) (r.map conv, 0) ∧ Ev (fun k => larchref05_calls.f k l0) (r.map conv) ∧ r.length ≤ l0.length ∧ Own r l0.length own ∧ ∀ g : Int → Bool, resp l0 (fun i => g (own i)) l0.length 0 (fun _ => g 0) := by
  obtain ⟨c, hc, hR, h0⟩ := check_both l0
  rw [hE] at hc
  cases hc
  obtain ⟨hl, hchk⟩ := h0 rfl
  obtain ⟨r, ha, hb, hk⟩ := calls_both l0 hl hp l0.length 0 (List.replicate 64 false) (List.replicate 64 z33) (List.replicate 64 0) [] (by omega) (by simp) (by simp) (by simp) hchk (fun i _ _ hi => by
    rw [rdOf_rep] at hi
    cases hi) (by simp) (by simp)
  obtain ⟨own, -, hO, hG⟩ := own_go l0 l0.length 0 (List.replicate 64 false) (List.replicate 64 z33) (List.replicate 64 0) [] r (fun _ => 0) (by simp) (by simp) hchk (fun t _ _ ht => by
    rw [rdOf_rep] at ht
    cases ht) ⟨fun q q0 q1 => by simp at q1; omega, fun q q0 q1 => by simp at q1; omega, fun i hi => by omega, fun q q0 q1 => by simp at q1; omega⟩ ha
  rw [Nat.zero_add] at hO
  have hcl : Ev (fun k => larchref05_calls.f k l0) (r.map conv) := hb.congr fun k => by
    unfold larchref05_calls.f
    rw [if_pos (by decide)]
    rfl
  refine ⟨hl, hchk, r, own, ?_, ?_, hcl, hk.len, hO, fun g => hG g _ fun t t0 t1 => ?_⟩
  · unfold event_Calls.f event_calls.f
    rw [hE]
    simp only [Option.bind_some, if_true]
    rw [ha]
    rfl
  · unfold larchref05_Calls.f
    refine Ev.bind hR ?_
    simp only [if_true]
    exact Ev.bind hcl (Ev.const _)
  · unfold rd
    rw [List.getD_eq_getElem?_getD, List.getElem?_replicate]
    split <;> rfl
theorem bad_of (l0 : List S67) (c : Int) (hE : event_Check.f l0 = some c) (h0 : c ≠ 0) : event_Calls.f l0 = some ([], c) ∧ Ev (fun k => larchref05_Calls.f k l0) ([], c) := by
  obtain ⟨c', hc, hR, -⟩ := check_both l0
  rw [hE] at hc
  cases hc
  refine ⟨?_, ?_⟩
  · unfold event_Calls.f
    rw [hE]
    simp only [Option.bind_some, if_neg h0]
  · unfold larchref05_Calls.f
    refine Ev.bind hR ?_
    simp only [if_neg h0]
    exact Ev.const _
end Go.Proofs.Ytagdkmcgepidoaa.P
/- P6 -/
namespace Go.Proofs.Ytagdkmcgepidoaa.P
open Go.RowKit Go.Proofs.YtagdkmcgepidoaaW.PrintWords Go.Proofs.YtagdkmcgepidoaaW.PrintLast Go.Proofs.YtagdkmcgepidoaaW.PrintMore
theorem ofInt64 (a : Nat) (h : a < 4611686018427387904) : (BitVec.ofInt 64 (a : Int)).toNat = a := by
  rw [BitVec.ofInt_natCast, BitVec.toNat_ofNat]
  exact Nat.mod_eq_of_lt (by omega)
theorem wrap64_small (a : Nat) (h : a < 4611686018427387904) : IntKind.i64.wrap (a : Int) = (a : Int) := by
  rw [i64_w]
  unfold wrap64
  omega
theorem or64 (a b : Nat) (ha : a < 4611686018427387904) (hb : b < 4611686018427387904) : Go.bits .or .i64 (a : Int) (b : Int) = ((a ||| b : Nat) : Int) := by
  have hx : a ||| b < 2 ^ 62 := Nat.or_lt_two_pow (by omega) (by omega)
  show IntKind.i64.wrap ((BitVec.ofInt 64 (a : Int) ||| BitVec.ofInt 64 (b : Int)).toNat : Int) = _
  rw [BitVec.toNat_or, ofInt64 a ha, ofInt64 b hb]
  exact wrap64_small _ (by omega)
theorem and64 (a b : Nat) (ha : a < 4611686018427387904) (hb : b < 4611686018427387904) : Go.bits .and .i64 (a : Int) (b : Int) = ((a &&& b : Nat) : Int) := by
  have hx : a &&& b < 2 ^ 62 := Nat.and_lt_two_pow _ (by omega)
  show IntKind.i64.wrap ((BitVec.ofInt 64 (a : Int) &&& BitVec.ofInt 64 (b : Int)).toNat : Int) = _
  rw [BitVec.toNat_and, ofInt64 a ha, ofInt64 b hb]
  exact wrap64_small _ (by omega)
theorem andNot64 (a b : Nat) (ha : a < 4611686018427387904) (hb : b < 4611686018427387904) : (Go.bits .andNot .i64 (a : Int) (b : Int) = 0) ↔ ∀ j, a.testBit j = true → b.testBit j = true := by
  have e : Go.bits .andNot .i64 (a : Int) (b : Int) = IntKind.i64.wrap ((BitVec.ofInt 64 (a : Int) &&& ~~~(BitVec.ofInt 64 (b : Int))).toNat : Int) := rfl
  have hle : (BitVec.ofInt 64 (a : Int) &&& ~~~(BitVec.ofInt 64 (b : Int))).toNat < 2 ^ 62 := by
    rw [BitVec.toNat_and, ofInt64 a ha]
    exact Nat.lt_of_le_of_lt Nat.and_le_left (by omega)
  rw [e, wrap64_small _ (by omega)]
  have tb : ∀ j, (BitVec.ofInt 64 (a : Int) &&& ~~~(BitVec.ofInt 64 (b : Int))).toNat.testBit j = (a.testBit j && (decide (j < 64) && !b.testBit j)) := by
    intro j
    rw [BitVec.toNat_and, Nat.testBit_and, ofInt64 a ha, BitVec.testBit_toNat, BitVec.getLsbD_not, ← BitVec.testBit_toNat, ofInt64 b hb]
  constructor
  · intro h j hj
    have h0 : (BitVec.ofInt 64 (a : Int) &&& ~~~(BitVec.ofInt 64 (b : Int))).toNat = 0 := by omega
    have := tb j
    rw [h0, Nat.zero_testBit, hj] at this
    have hj64 : j < 64 := by
      refine Decidable.byContradiction fun hh => ?_
      have : a < 2 ^ j := Nat.lt_of_lt_of_le (show a < 2 ^ 64 by omega) (Nat.pow_le_pow_right (by decide) (by omega))
      rw [Nat.testBit_lt_two_pow this] at hj
      cases hj
    simpa [hj64] using this
  · intro h
    have h0 : (BitVec.ofInt 64 (a : Int) &&& ~~~(BitVec.ofInt 64 (b : Int))).toNat = 0 := by
      apply Nat.eq_of_testBit_eq
      intro j
      rw [tb, Nat.zero_testBit]
      cases ha' : a.testBit j with
      | false => rfl
      | true => rw [h j ha']; simp
    rw [h0]
    rfl
theorem bit_val (s i : Nat) (hs : s < 65536) : Go.bits .and .i64 ((s : Int) / 2 ^ i) 1 = if s.testBit i = true then 1 else 0 := by
  have e : ((s : Int) / 2 ^ i) = ((s / 2 ^ i : Nat) : Int) := by simp
  have hl : s / 2 ^ i ≤ s := Nat.div_le_self _ _
  rw [e, show (1 : Int) = ((1 : Nat) : Int) from rfl, and64 _ _ (by omega) (by omega), Nat.and_one_is_mod, Nat.testBit_eq_decide_div_mod_eq]
  by_cases h : s / 2 ^ i % 2 = 1
  · rw [decide_eq_true h, if_pos rfl, h]
  · rw [decide_eq_false h, if_neg (by decide)]
    omega
theorem pow16 (n : Nat) (h : n ≤ 16) : 2 ^ n ≤ 65536 := Nat.pow_le_pow_right (n := 2) (by decide) h
theorem shl_val (n : Nat) (h : n ≤ 16) : shl .i64 1 (n : Int) = ((2 ^ n : Nat) : Int) := by
  have := pow16 n h
  unfold shl
  rw [Int.toNat_natCast, Nat.min_eq_left (show n ≤ IntKind.i64.bits from Nat.le_trans h (by decide)), Int.one_mul, show (2 : Int) ^ n = ((2 ^ n : Nat) : Int) by simp]
  exact wrap64_small _ (by omega)
theorem shr_val (s i : Nat) (h : i ≤ 16) : shr .i64 (s : Int) (i : Int) = (s : Int) / 2 ^ i := by
  unfold shr
  rw [Int.toNat_natCast, Nat.min_eq_left (show i ≤ IntKind.i64.bits from Nat.le_trans h (by decide))]
theorem wrap_pow (i : Nat) (h : i ≤ 16) : wrap64 ((2 : Int) ^ i) = ((2 ^ i : Nat) : Int) := by
  have := pow16 i h
  rw [show (2 : Int) ^ i = ((2 ^ i : Nat) : Int) by simp, ← i64_w]
  exact wrap64_small _ (by omega)
theorem rd38_mem' (r : List S38) (i : Int) (hi : 0 ≤ i ∧ i < r.length) : J38 r i ∈ r := by
  unfold J38
  rw [List.getD_eq_getElem?_getD, List.getElem?_eq_getElem (by omega)]
  exact List.getElem_mem _
theorem before_val (r : List S38) (ht : ∀ x ∈ r, x.f4 = -1 ∨ 0 ≤ x.f4) (a b : Int) (ha : 0 ≤ a ∧ a < r.length) (hb : 0 ≤ b ∧ b < r.length) : larchref05_before.f (r.map conv) a b = some (aheadB (J38 r a) (J38 r b)) := by
  unfold larchref05_before.f aheadB
  rw [if_pos ha.1, if_pos (by simpa using ha.2), rd76_map r a ha]
  rcases ht _ (rd38_mem' r a ha) with h4 | h4
  · rw [if_pos (show (conv (J38 r a)).f4 = -1 from h4), decide_eq_false (by omega)]
    rfl
  · rw [if_neg (show ¬ ((conv (J38 r a)).f4 = -1) from fun h => by have : (J38 r a).f4 = -1 := h; omega), if_pos hb.1, if_pos (by simpa using hb.2), rd76_map r b hb, decide_eq_true h4]
    simp only [Option.bind_some, Bool.true_and]
    rfl
section
variable (r : List S38) (o : List Int)
def Tidy (m : Nat) : Prop := ∀ i k : Nat, i < k → k < m → aheadB (J38 r (rd o (k : Int))) (J38 r (rd o (i : Int))) = false
theorem mx_lt (a b v : Int) : v < mx a b ↔ v < a ∨ v < b := by
  unfold mx
  split <;> omega
theorem fit_e2 (hl : o.length ≤ 1048576) (hin : ∀ j : Nat, j < o.length → 0 ≤ rd o (j : Int) ∧ rd o (j : Int) < r.length) : ∀ d (j : Nat) (last : Int), j + d = o.length → (∀ v : Int, 0 ≤ v → (v < last ↔ ∃ i : Nat, i < j ∧ v < (J38 r (rd o (i : Int))).f3)) → Tidy r o j →
    ∃ b : Bool, Ev (fun k => event_Fits.l2 k r last o (o.length : Int) (j : Int)) (b, 0) ∧ (b = true ↔ Tidy r o o.length)
  | 0, j, last, hd, _, hT => by
    refine ⟨true, Ev.succ ((Ev.const _).congr fun k => ?_), ?_⟩
    · simp only [event_Fits.l2]
      rw [if_neg (by omega)]
    · have : j = o.length := by omega
      rw [← this]
      exact ⟨fun _ => hT, fun _ => rfl⟩
  | d + 1, j, last, hd, hL, hT => by
    obtain ⟨h0, h1⟩ := hin j (by omega)
    obtain ⟨x, hx⟩ : ∃ x, x = J38 r (rd o (j : Int)) := ⟨_, rfl⟩
    have step : ∀ k, event_Fits.l2 (k + 1) r last o (o.length : Int) (j : Int) = (if x.f4 ≥ 0 then (if x.f4 < last then some (false, 0) else event_Fits.l2 k r (mx last x.f3) o (o.length : Int) (((j + 1 : Nat)) : Int)) else event_Fits.l2 k r (mx last x.f3) o (o.length : Int) (((j + 1 : Nat)) : Int)) := by
      intro k
      simp only [event_Fits.l2, ← hx]
      rw [if_pos (by omega), if_pos (by omega), if_pos (by omega), if_pos h0, if_pos h1, wrap_succ (by omega)]
    have hL' : ∀ v : Int, 0 ≤ v → (v < mx last x.f3 ↔ ∃ i : Nat, i < j + 1 ∧ v < (J38 r (rd o (i : Int))).f3) := by
      intro v hv
      rw [mx_lt, hL v hv]
      constructor
      · rintro (⟨i, a, b⟩ | h)
        · exact ⟨i, by omega, b⟩
        · exact ⟨j, by omega, by rw [← hx]; exact h⟩
      · rintro ⟨i, a, b⟩
        by_cases e : i = j
        · right; rw [hx, ← e]; exact b
        · exact .inl ⟨i, by omega, b⟩
    by_cases hb : x.f4 ≥ 0 ∧ x.f4 < last
    · refine ⟨false, Ev.succ ((Ev.const _).congr fun k => ?_), ?_⟩
      · rw [step, if_pos hb.1, if_pos hb.2]
      · refine ⟨fun h => (by cases h), fun h => ?_⟩
        obtain ⟨i, a, b⟩ := (hL x.f4 hb.1).1 hb.2
        have := h i j a (by omega)
        rw [← hx] at this
        unfold aheadB at this
        rw [decide_eq_true hb.1, decide_eq_true b] at this
        cases this
    · have hT' : Tidy r o (j + 1) := by
        intro i k hik hk
        by_cases e : k = j
        · subst e
          rw [← hx]
          unfold aheadB
          by_cases e0 : (0 : Int) ≤ x.f4
          · rw [decide_eq_true e0, Bool.true_and]
            refine decide_eq_false fun hh => hb ⟨e0, (hL x.f4 e0).2 ⟨i, hik, hh⟩⟩
          · rw [decide_eq_false e0, Bool.false_and]
        · exact hT i k hik (by omega)
      obtain ⟨b, h2, h3⟩ := fit_e2 hl hin d (j + 1) (mx last x.f3) (by omega) hL' hT'
      refine ⟨b, Ev.succ (h2.congr fun k => ?_), h3⟩
      rw [step]
      by_cases e0 : x.f4 ≥ 0
      · rw [if_pos e0, if_neg (fun hh => hb ⟨e0, hh⟩)]
      · rw [if_neg e0]
theorem fit_r3 (hl : o.length ≤ 1048576) (ht : ∀ x ∈ r, x.f4 = -1 ∨ 0 ≤ x.f4) (hin : ∀ j : Nat, j < o.length → 0 ≤ rd o (j : Int) ∧ rd o (j : Int) < r.length) (i : Nat) (hi : i < o.length) : ∀ d (k : Nat), k + d = o.length → i < k →
    ((∃ k' : Nat, k ≤ k' ∧ k' < o.length ∧ aheadB (J38 r (rd o (k' : Int))) (J38 r (rd o (i : Int))) = true) ∧ Ev (fun q => larchref05_fits.l3 q (r.map conv) o (i : Int) (k : Int)) false) ∨
    ((∀ k' : Nat, k ≤ k' → k' < o.length → aheadB (J38 r (rd o (k' : Int))) (J38 r (rd o (i : Int))) = false) ∧ ∀ b, Ev (fun q => larchref05_fits.l2 q (r.map conv) o (((i + 1 : Nat)) : Int)) b → Ev (fun q => larchref05_fits.l3 q (r.map conv) o (i : Int) (k : Int)) b)
  | 0, k, hd, hik => by
    right
    refine ⟨fun k' a b => by omega, fun b hb => Ev.succ (hb.congr fun q => ?_)⟩
    simp only [larchref05_fits.l3]
    rw [if_neg (by omega), wrap_succ (by omega)]
  | d + 1, k, hd, hik => by
    have hbv := before_val r ht (rd o (k : Int)) (rd o (i : Int)) (hin k (by omega)) (hin i hi)
    have step : ∀ q, larchref05_fits.l3 (q + 1) (r.map conv) o (i : Int) (k : Int) = (if aheadB (J38 r (rd o (k : Int))) (J38 r (rd o (i : Int))) = true then some false else larchref05_fits.l3 q (r.map conv) o (i : Int) (((k + 1 : Nat)) : Int)) := by
      intro q
      simp only [larchref05_fits.l3]
      rw [if_pos (by omega), if_pos (by omega), if_pos (by omega), if_pos (by omega), hbv, wrap_succ (by omega)]
      rfl
    by_cases hb : aheadB (J38 r (rd o (k : Int))) (J38 r (rd o (i : Int))) = true
    · left
      refine ⟨⟨k, Nat.le_refl _, by omega, hb⟩, Ev.succ ((Ev.const _).congr fun q => ?_)⟩
      rw [step, if_pos hb]
    · rcases fit_r3 hl ht hin i hi d (k + 1) (by omega) (by omega) with ⟨⟨k', a, b, c⟩, h⟩ | ⟨h1, h2⟩
      · left
        refine ⟨⟨k', by omega, b, c⟩, Ev.succ (h.congr fun q => ?_)⟩
        rw [step, if_neg hb]
      · right
        refine ⟨fun k' a b => ?_, fun b hbb => Ev.succ ((h2 b hbb).congr fun q => ?_)⟩
        · by_cases e : k' = k
          · rw [e]; simpa using hb
          · exact h1 k' (by omega) b
        · rw [step, if_neg hb]
theorem fit_r2 (hl : o.length ≤ 1048576) (ht : ∀ x ∈ r, x.f4 = -1 ∨ 0 ≤ x.f4) (hin : ∀ j : Nat, j < o.length → 0 ≤ rd o (j : Int) ∧ rd o (j : Int) < r.length) : ∀ d (i : Nat), i + d = o.length → (∀ i' k : Nat, i' < i → i' < k → k < o.length → aheadB (J38 r (rd o (k : Int))) (J38 r (rd o (i' : Int))) = false) →
    ∃ b : Bool, Ev (fun q => larchref05_fits.l2 q (r.map conv) o (i : Int)) b ∧ (b = true ↔ Tidy r o o.length)
  | 0, i, hd, hT => by
    refine ⟨true, Ev.succ ((Ev.const _).congr fun k => ?_), ⟨fun _ => fun i' k a b => hT i' k (by omega) a b, fun _ => rfl⟩⟩
    simp only [larchref05_fits.l2]
    rw [if_neg (by omega)]
  | d + 1, i, hd, hT => by
    have step : ∀ q, larchref05_fits.l2 (q + 1) (r.map conv) o (i : Int) = larchref05_fits.l3 q (r.map conv) o (i : Int) (((i + 1 : Nat)) : Int) := by
      intro q
      simp only [larchref05_fits.l2]
      rw [if_pos (by omega), wrap_succ (by omega)]
    rcases fit_r3 r o hl ht hin i (by omega) d (i + 1) (by omega) (by omega) with ⟨⟨k', a, b, c⟩, h⟩ | ⟨h1, h2⟩
    · refine ⟨false, Ev.succ (h.congr step), ⟨fun h => (by cases h), fun hh => ?_⟩⟩
      rw [hh i k' (by omega) b] at c
      cases c
    · obtain ⟨b, h3, h4⟩ := fit_r2 hl ht hin d (i + 1) (by omega) (fun i' k a b c => by
        by_cases e : i' = i
        · rw [e]; exact h1 k (by omega) c
        · exact hT i' k (by omega) b c)
      exact ⟨b, Ev.succ ((h2 b h3).congr step), h4⟩
theorem fit_1 (hl : o.length ≤ 1048576) (hr : r.length ≤ 100000) (ht : ∀ x ∈ r, x.f4 = -1 ∨ 0 ≤ x.f4) (hin : ∀ j : Nat, j < o.length → 0 ≤ rd o (j : Int) ∧ rd o (j : Int) < r.length) (pl : List Int) (inn : List Bool) (h1 : pl.length = r.length) (h2 : inn.length = r.length)
    (hI : ∀ q : Int, 0 ≤ q → q < r.length → 0 ≤ rd pl q ∧ (rd pl q = 0 ↔ rdOf false inn q = false)) : ∀ d (j : Nat), j + d = r.length → ∃ b : Bool, Ev (fun k => event_Fits.l1 k o r pl r (r.length : Int) (j : Int)) (b, 0) ∧ Ev (fun k => larchref05_fits.l1 k (r.map conv) o inn (j : Int)) b
  | 0, j, hd => by
    obtain ⟨b, e1, e2⟩ := fit_e2 r o hl hin o.length 0 (-1) (by omega) (fun v hv => ⟨fun h => by omega, fun ⟨i, a, _⟩ => by omega⟩) (fun i k a b => by omega)
    obtain ⟨b', e3, e4⟩ := fit_r2 r o hl ht hin o.length 0 (by omega) (fun i' k a _ _ => by omega)
    have : b = b' := Bool.eq_iff_iff.mpr (e2.trans e4.symm)
    subst this
    refine ⟨b, Ev.succ (e1.congr fun k => ?_), Ev.succ (e3.congr fun k => ?_)⟩
    · simp only [event_Fits.l1]
      rw [if_neg (by omega)]
      rfl
    · simp only [larchref05_fits.l1, List.length_map]
      rw [if_neg (by omega)]
      rfl
  | d + 1, j, hd => by
    obtain ⟨b, e1, e2⟩ := fit_1 hl hr ht hin pl inn h1 h2 hI d (j + 1) (by omega)
    have h4 := ht _ (rd38_mem' r (j : Int) ⟨by omega, by omega⟩)
    have hrd : J76 (r.map conv) (j : Int) = conv (J38 r (j : Int)) := rd76_map r (j : Int) ⟨by omega, by omega⟩
    have c4 : (conv (J38 r (j : Int))).f4 = (J38 r (j : Int)).f4 := rfl
    obtain ⟨g0, g1⟩ := hI (j : Int) (by omega) (by omega)
    by_cases hp : (J38 r (j : Int)).f4 ≥ 0
    · by_cases hz : rd pl (j : Int) = 0
      · refine ⟨false, Ev.succ ((Ev.const _).congr fun k => ?_), Ev.succ ((Ev.const _).congr fun k => ?_)⟩
        · simp only [event_Fits.l1]
          rw [if_pos (by omega), if_pos (by omega), if_pos (by omega), if_pos hp, if_pos (by omega), if_pos hz]
        · simp only [larchref05_fits.l1, List.length_map, hrd, c4]
          rw [if_pos (by omega), if_pos (by omega), if_neg (by omega), if_pos (by omega), if_neg (by rw [g1.1 hz]; decide)]
      · refine ⟨b, Ev.succ (e1.congr fun k => ?_), Ev.succ (e2.congr fun k => ?_)⟩
        · simp only [event_Fits.l1]
          rw [if_pos (by omega), if_pos (by omega), if_pos (by omega), if_pos hp, if_pos (by omega), if_neg hz, wrap_succ (by omega)]
        · simp only [larchref05_fits.l1, List.length_map, hrd, c4]
          rw [if_pos (by omega), if_pos (by omega), if_neg (by omega), if_pos (by omega), if_pos (by
            cases hh : rdOf false inn (j : Int) with
            | true => rfl
            | false => exact absurd (g1.2 hh) hz), wrap_succ (by omega)]
    · refine ⟨b, Ev.succ (e1.congr fun k => ?_), Ev.succ (e2.congr fun k => ?_)⟩
      · simp only [event_Fits.l1]
        rw [if_pos (by omega), if_pos (by omega), if_pos (by omega), if_neg hp, wrap_succ (by omega)]
      · simp only [larchref05_fits.l1, List.length_map, hrd, c4]
        rw [if_pos (by omega), if_pos (by omega), if_pos (by omega), wrap_succ (by omega)]
theorem fit_0 (hl : o.length ≤ 1048576) (hr : r.length ≤ 100000) (ht : ∀ x ∈ r, x.f4 = -1 ∨ 0 ≤ x.f4) : ∀ d (j : Nat) (pl : List Int) (inn : List Bool), j + d = o.length → pl.length = r.length → inn.length = r.length → (∀ i : Nat, i < j → 0 ≤ rd o (i : Int) ∧ rd o (i : Int) < r.length) →
    (∀ q : Int, 0 ≤ q → q < r.length → 0 ≤ rd pl q ∧ (rd pl q = 0 ↔ rdOf false inn q = false)) → ∃ b : Bool, Ev (fun k => event_Fits.l0 k o r pl o (o.length : Int) (j : Int)) (b, 0) ∧ Ev (fun k => larchref05_fits.l0 k (r.map conv) o inn (j : Int)) b
  | 0, j, pl, inn, hd, h1, h2, hin, hI => by
    obtain ⟨b, e1, e2⟩ := fit_1 r o hl hr ht (fun i hi => hin i (by omega)) pl inn h1 h2 hI r.length 0 (by omega)
    refine ⟨b, Ev.succ (e1.congr fun k => ?_), Ev.succ (e2.congr fun k => ?_)⟩
    · simp only [event_Fits.l0]
      rw [if_neg (by omega)]
      rfl
    · simp only [larchref05_fits.l0]
      rw [if_neg (by omega)]
      rfl
  | d + 1, j, pl, inn, hd, h1, h2, hin, hI => by
    obtain ⟨v, hv⟩ : ∃ v, v = rd o (j : Int) := ⟨_, rfl⟩
    by_cases hr0 : 0 ≤ v ∧ v < r.length
    rotate_left
    · refine ⟨false, Ev.succ ((Ev.const _).congr fun k => ?_), Ev.succ ((Ev.const _).congr fun k => ?_)⟩
      · simp only [event_Fits.l0, ← hv]
        rw [if_pos (by omega), if_pos (by omega), if_pos (by omega)]
        by_cases c : v < 0
        · rw [if_pos c]
        · rw [if_neg c, if_pos (by omega)]
      · simp only [larchref05_fits.l0, ← hv, List.length_map]
        rw [if_pos (by omega), if_pos (by omega)]
        by_cases c : v < 0
        · rw [if_pos c]
        · rw [if_neg c, if_pos (by omega)]
    obtain ⟨g0, g1⟩ := hI v hr0.1 hr0.2
    by_cases hs : rd pl v = 0
    rotate_left
    · refine ⟨false, Ev.succ ((Ev.const _).congr fun k => ?_), Ev.succ ((Ev.const _).congr fun k => ?_)⟩
      · simp only [event_Fits.l0, ← hv]
        rw [if_pos (by omega), if_pos (by omega), if_pos (by omega), if_neg (by omega), if_neg (by omega), if_pos hr0.1, if_pos (by omega), if_pos (by omega)]
      · simp only [larchref05_fits.l0, ← hv, List.length_map]
        rw [if_pos (by omega), if_pos (by omega), if_neg (by omega), if_neg (by omega), if_pos hr0.1, if_pos (by omega), if_pos (by
          cases hh : rdOf false inn v with
          | true => rfl
          | false => exact absurd (g1.2 hh) hs)]
    obtain ⟨b, e1, e2⟩ := fit_0 hl hr ht d (j + 1) (pl.set v.toNat (((j + 1 : Nat)) : Int)) (inn.set v.toNat true) (by omega) (by simpa using h1) (by simpa using h2) (fun i hi => by
      by_cases e : i = j
      · rw [e, ← hv]; exact hr0
      · exact hin i (by omega)) (fun q q0 q1 => by
      rw [rd_set _ _ _ _ (by omega) q0, rdOf_set _ _ _ _ (by omega) q0]
      by_cases e : q = v
      · rw [if_pos e, if_pos e]
        exact ⟨by omega, by omega, fun h => by cases h⟩
      · rw [if_neg e, if_neg e]
        exact hI q q0 q1)
    refine ⟨b, Ev.succ (e1.congr fun k => ?_), Ev.succ (e2.congr fun k => ?_)⟩
    · simp only [event_Fits.l0, ← hv]
      rw [if_pos (by omega), if_pos (by omega), if_pos (by omega), if_neg (by omega), if_neg (by omega), if_pos hr0.1, if_pos (by omega), if_neg (by omega), wrap_succ (by omega)]
    · simp only [larchref05_fits.l0, ← hv, List.length_map]
      rw [if_pos (by omega), if_pos (by omega), if_neg (by omega), if_neg (by omega), if_pos hr0.1, if_pos (by omega), if_neg (by rw [g1.1 hs]; decide), wrap_succ (by omega)]
end
theorem fits_both (l0 : List S67) (hp : ∀ e ∈ l0, e.f3.f3.length ≤ 1048576) (o : List Int) (ho : o.length ≤ 1048576) : ∃ (b : Bool) (c : Int), Ev (fun k => event_Fits.f k l0 o) (b, c) ∧ Ev (fun k => larchref05_Fits.f k l0 o) (b, c) := by
  obtain ⟨r, c, hE, hR, -, -, h0⟩ := Calls_both l0 hp
  by_cases e0 : c = 0
  · subst e0
    obtain ⟨hl, hk⟩ := h0 rfl
    have hr := hk.len
    obtain ⟨b, e1, e2⟩ := fit_0 r o ho (by omega) hk.tw o.length 0 (List.replicate r.length 0) (List.replicate r.length false) (by omega) (by simp) (by simp) (fun i hi => by omega) (fun q q0 q1 => by
      have : rd (List.replicate r.length 0) q = 0 := by
        unfold rd
        rw [List.getD_eq_getElem?_getD, List.getElem?_replicate]
        split <;> rfl
      rw [this, rdOf_rep]
      exact ⟨Int.le_refl _, fun _ => rfl, fun _ => rfl⟩)
    refine ⟨b, 0, ?_, ?_⟩
    · unfold event_Fits.f
      rw [hE]
      simp only [Option.bind_some, if_true]
      refine e1.congr fun k => ?_
      rw [if_pos (by omega), if_pos (by omega)]
      rfl
    · unfold larchref05_Fits.f
      refine Ev.bind hR ?_
      simp only [if_true]
      refine Ev.bind (x := b) ?_ (Ev.const _)
      unfold larchref05_fits.f
      refine e2.congr fun k => ?_
      simp only [List.length_map]
      rw [if_pos (by omega), if_pos (by omega)]
      rfl
  · refine ⟨false, c, ?_, ?_⟩
    · unfold event_Fits.f
      rw [hE]
      simp only [Option.bind_some, if_neg e0]
      exact Ev.const _
    · unfold larchref05_Fits.f
      refine Ev.bind hR ?_
      simp only [if_neg e0]
      exact Ev.const _
end Go.Proofs.Ytagdkmcgepidoaa.P
