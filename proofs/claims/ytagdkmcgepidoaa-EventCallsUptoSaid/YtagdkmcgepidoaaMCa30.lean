/- P.eventCalls_holds, part 31 of 31: the contracts of the Go functions that the law calls, its own walk, and its plain law, for every input that the statement speaks of. -/
import Derived.Test.YtagdkmcgepidoaaMCa27
import Derived.Test.YtagdkmcgepidoaaMCa29
import Derived.Test.YtagdkmcgepidoaaMCa25
import Derived.Test.YtagdkmcgepidoaaMCa20
import Derived.Test.YtagdkmcgepidoaaMCa26
import Derived.Test.YtagdkmcgepidoaaMCa4
import Derived.Test.YtagdkmcgepidoaaMCa28
set_option linter.unusedVariables false
set_option linter.unusedSimpArgs false
/- P16 -/
namespace Go.Proofs.Ytagdkmcgepidoaa.P
open Go.RowKit Go.Proofs.YtagdkmcgepidoaaW.PrintWords Go.Proofs.YtagdkmcgepidoaaW.PrintLast Go.Proofs.YtagdkmcgepidoaaW.PrintMore
def same4 (r cs : List S38) : Nat → Nat → Bool
  | 0, _ => true
  | d + 1, j => decide ((J38 r (j : Int)).f4 = (J38 cs (j : Int)).f4) && same4 r cs d (j + 1)
theorem same4_eq (r cs : List S38) (h : ∀ q : Int, 0 ≤ q → q < cs.length → callSame (J38 r q) (J38 cs q) = decide ((J38 r q).f4 = (J38 cs q).f4)) : ∀ d (j : Nat), j + d = cs.length → eqcGo r cs d j = same4 r cs d j
  | 0, _, _ => rfl
  | d + 1, j, hd => by
    unfold eqcGo same4
    rw [h (j : Int) (by omega) (by omega), same4_eq r cs h d (j + 1) (by omega)]
theorem cmp_val (cs r : List S38) (hr : r.length = cs.length) (h3 : ∀ q : Int, 0 ≤ q → q < cs.length → (J38 r q).f3 = (J38 cs q).f3) : ∀ d (j : Nat), j + d = cs.length → cmpGo (cs.map conv) (r.map conv) d j = some (same4 r cs d j)
  | 0, j, hd => rfl
  | d + 1, j, hd => by
    have e1 : J76 (cs.map conv) (j : Int) = (⟨(J38 cs (j : Int)).f0, (J38 cs (j : Int)).f1, (J38 cs (j : Int)).f2, (J38 cs (j : Int)).f3, (J38 cs (j : Int)).f4⟩ : S76) := rd76_map cs _ ⟨by omega, by omega⟩
    have e2 : J76 (r.map conv) (j : Int) = (⟨(J38 r (j : Int)).f0, (J38 r (j : Int)).f1, (J38 r (j : Int)).f2, (J38 r (j : Int)).f3, (J38 r (j : Int)).f4⟩ : S76) := rd76_map r _ ⟨by omega, by omega⟩
    have h3j := h3 (j : Int) (by omega) (by omega)
    unfold cmpGo same4
    rw [if_pos (by rw [List.length_map]; omega), e1, e2]
    dsimp only
    rw [if_pos h3j]
    by_cases h4 : (J38 r (j : Int)).f4 = (J38 cs (j : Int)).f4
    · rw [if_pos h4, decide_eq_true h4, Bool.true_and]
      exact cmp_val cs r hr h3 d (j + 1) (by omega)
    · rw [if_neg h4, decide_eq_false h4, Bool.false_and]
def tailR (cs : List S38) (k : Nat) (o : List S67) : Option (List S67 × Int) := refEv k (cs.map conv) (some o)
theorem copyRet_val (a : Bool) (b c : Int) (l : List S70) (h : l.length ≤ 1048576) : larchref05_CopyRet.f a b c l = some (a, b, c, l) := by
  unfold larchref05_CopyRet.f
  simp only [Option.bind_some, List.length_nil, List.nil_append, Nat.zero_add]
  rw [if_pos (by omega)]
end Go.Proofs.Ytagdkmcgepidoaa.P
/- P17 -/
namespace Go.Proofs.Ytagdkmcgepidoaa.P
open Go.RowKit Go.Proofs.YtagdkmcgepidoaaW.PrintWords Go.Proofs.YtagdkmcgepidoaaW.PrintLast Go.Proofs.YtagdkmcgepidoaaW.PrintMore
theorem conv_unc (l : List S76) : (l.map unc).map conv = l := by
  rw [List.map_map]
  exact List.map_id'' (fun x => rfl) l
theorem drop76 (l : List S76) (j : Nat) (h : j < l.length) : l.drop j = J76 l (j : Int) :: l.drop (j + 1) := by
  rw [List.drop_eq_getElem_cons h]
  congr 1
  unfold J76
  rw [Int.toNat_natCast, List.getD_eq_getElem?_getD, List.getElem?_eq_getElem h]
  rfl
theorem mem76 (l : List S76) (j : Nat) (h : j < l.length) : J76 l (j : Int) ∈ l := by
  unfold J76
  rw [Int.toNat_natCast, List.getD_eq_getElem?_getD, List.getElem?_eq_getElem h]
  exact List.getElem_mem _
theorem our_go (l : List S76) (hl : l.length ≤ 1048576) (hp : ∀ c ∈ l, c.f2.f3.length ≤ 1048576) : ∀ d (j : Nat) (out : List S38), j + d = l.length → out.length ≤ j → Ev (fun k => larchlaw05_our.l0 k l out (j : Int)) (out ++ (l.drop j).map unc)
  | 0, j, out, hd, _ => by
    refine Ev.succ ((Ev.const out).congr' (by rw [List.drop_eq_nil_of_le (by omega), List.map_nil, List.append_nil]) fun k => ?_)
    rw [larchlaw05_our.l0.eq_2, if_neg (by omega)]
  | d + 1, j, out, hd, ho => by
    have hpe := hp _ (mem76 l j (by omega))
    refine Ev.succ ((our_go l hl hp d (j + 1) (out ++ [unc (J76 l (j : Int))]) (by omega) (by simp; omega)).congr' (by rw [drop76 l j (by omega)]; simp) fun k => ?_)
    rw [larchlaw05_our.l0.eq_2, if_pos (by omega), if_pos (by omega), copyRet_val _ _ _ _ hpe, Option.bind_some, if_pos (by omega), wrap_succ (by omega)]
    rfl
theorem our_ev (l : List S76) (hl : l.length ≤ 1048576) (hp : ∀ c ∈ l, c.f2.f3.length ≤ 1048576) : Ev (fun k => larchlaw05_our.f k l) (l.map unc) := by
  have := our_go l hl hp l.length 0 [] (by omega) (by simp)
  simpa [larchlaw05_our.f] using this
theorem sameRetB_refl (a : S36) : sameRetB a a = true := by unfold sameRetB; simp [pairsGo_refl]
theorem are_go (r : List S38) (hp : ∀ c ∈ r, c.f2.f3.length ≤ 1048576) : ∀ d (j : Nat), j + d = r.length → Ev (fun k => areGo k r (r.map conv) d j) true
  | 0, j, hd => Ev.const _
  | d + 1, j, hd => by
    have e1 : J76 (r.map conv) (j : Int) = (⟨(J38 r (j : Int)).f0, (J38 r (j : Int)).f1, (J38 r (j : Int)).f2, (J38 r (j : Int)).f3, (J38 r (j : Int)).f4⟩ : S76) := rd76_map r _ ⟨by omega, by omega⟩
    have hs := sameRet_ev (J38 r (j : Int)).f2 (J38 r (j : Int)).f2 (hp _ (mem38 r _ (by omega) (by omega)))
    rw [sameRetB_refl] at hs
    refine Ev.congr (g := fun k => (larchref05_SameRet.f k (J38 r (j : Int)).f2.f0 (J38 r (j : Int)).f2.f1 (J38 r (j : Int)).f2.f2 (J38 r (j : Int)).f2.f3 (J38 r (j : Int)).f2.f0 (J38 r (j : Int)).f2.f1 (J38 r (j : Int)).f2.f2 (J38 r (j : Int)).f2.f3).bind fun t => if t = true then areGo k r (r.map conv) d (j + 1) else none) ?_ fun k => by
      show (if areB _ (J76 (r.map conv) (j : Int)) = true then _ else none) = _
      rw [e1, if_pos (by unfold areB; simp [opSame])]
    exact Ev.bind hs ((are_go r hp d (j + 1) (by omega)).congr fun k => by rw [if_pos rfl])
theorem are_ev (r : List S38) (hp : ∀ c ∈ r, c.f2.f3.length ≤ 1048576) : Ev (fun k => larchlaw05_are.f k r (r.map conv)) true :=
  (are_go r hp r.length 0 (by omega)).congr fun k => by
    unfold larchlaw05_are.f
    rw [if_pos (by rw [List.length_map])]
theorem pairs_of {h : List S67} {r : List S38} {own : Nat → Int} (A : All h r own) (hp : ∀ e ∈ h, e.f3.f3.length ≤ 1048576) : ∀ c ∈ r, c.f2.f3.length ≤ 1048576 := by
  have hC := cont_of A
  intro c hc
  obtain ⟨i, hi, rfl⟩ := List.mem_iff_getElem.1 hc
  rw [rd38_get r i hi]
  by_cases h4 : (J38 r (i : Int)).f4 = -1
  · rw [hC.pn (i : Int) (by omega) (by omega) h4]
    decide
  · have hr := hC.rt (i : Int) (by omega) (by omega) h4
    rcases A.ow.tw (i : Int) (by omega) (by omega) with ht | ⟨⟨t0, t1⟩, _⟩
    · exact absurd ht h4
    have := hp _ (rd67_mem h (J38 r (i : Int)).f4.toNat (by omega))
    rw [Int.toNat_of_nonneg t0, hr] at this
    exact this
theorem chk_03 (l0 : List S67) : ∀ d (j : Nat) (op : List Bool) (ops : List S33), chkGo l0 d j op ops = 0 ∨ chkGo l0 d j op ops = 3
  | 0, _, _, _ => .inl rfl
  | d + 1, j, op, ops => by
    unfold chkGo
    split
    · exact .inr rfl
    · split
      · exact chk_03 l0 d (j + 1) _ _
      · exact .inr rfl
theorem events_both (cs : List S38) (hp : ∀ c ∈ cs, c.f2.f3.length ≤ 1048576) : ∃ (v : List S67) (c : Int), event_Events.f cs = some (v, c) ∧ Ev (fun k => larchref05_Events.f k (cs.map conv)) (v, c) ∧ v.length ≤ 100000 ∧ ∀ e ∈ v, e.f3.f3.length ≤ 1048576 := by
  have hlen : (((cs.map conv).length : Nat) : Int) = (cs.length : Int) := by rw [List.length_map]
  by_cases hb : cs.length > 100000
  · refine ⟨[], 2, ?_, (Ev.const (([] : List S67), (2 : Int))).congr fun k => ?_, by simp, by simp⟩
    · unfold event_Events.f
      rw [if_pos hb]
    · unfold larchref05_Events.f
      rw [if_pos (by rw [List.length_map]; omega)]
  have hev : event_Events.f cs = evBack cs (evGo cs (evNum cs) cs.length 0 (-1) (List.replicate (evNum cs) false) (List.replicate (evNum cs) z67)) := by
    unfold event_Events.f
    rw [if_neg hb, if_pos hp]
  have hn2 : evNum cs ≤ 200000 := by have := tw_le cs; unfold evNum; omega
  have href : ∀ X : List S67 × Int, (evNum cs > 100000 → X = ([], 3)) → (∀ o, evGo cs (evNum cs) cs.length 0 (-1) (List.replicate (evNum cs) false) (List.replicate (evNum cs) z67) = some o → evNum cs ≤ 100000 → Ev (fun k => tailR cs k o) X) → (evGo cs (evNum cs) cs.length 0 (-1) (List.replicate (evNum cs) false) (List.replicate (evNum cs) z67) = none → X = ([], 3)) → Ev (fun k => larchref05_Events.f k (cs.map conv)) X := fun X h1 h2 h3 => by
    have hu : (cs.map conv).map unc = cs := by
      rw [List.map_map]
      exact List.map_id'' (fun x => rfl) cs
    have hpc : ∀ c ∈ cs.map conv, c.f2.f3.length ≤ 1048576 := by
      intro c hc
      obtain ⟨d, hd, rfl⟩ := List.mem_map.1 hc
      exact hp d hd
    have hf : ∀ k, larchref05_Events.f k (cs.map conv) = if evNum cs > 100000 then some ([], 3) else refEv k (cs.map conv) (evGo cs (evNum cs) cs.length 0 (-1) (List.replicate (evNum cs) false) (List.replicate (evNum cs) z67)) := fun k => by
      unfold larchref05_Events.f
      rw [if_neg (by rw [List.length_map]; omega), hu, if_pos hpc, List.length_map]
    by_cases hbg : evNum cs > 100000
    · exact (Ev.const (([] : List S67), (3 : Int))).congr' (h1 hbg) fun k => by rw [hf, if_pos hbg]
    cases hE : evGo cs (evNum cs) cs.length 0 (-1) (List.replicate (evNum cs) false) (List.replicate (evNum cs) z67) with
    | none => exact (Ev.const (([] : List S67), (3 : Int))).congr' (h3 hE) fun k => by rw [hf, if_neg hbg, hE]; rfl
    | some o => exact (h2 o hE (by omega)).congr fun k => by rw [hf, if_neg hbg, hE]; rfl
  cases hE : evGo cs (evNum cs) cs.length 0 (-1) (List.replicate (evNum cs) false) (List.replicate (evNum cs) z67) with
  | none =>
    rw [hE] at hev
    exact ⟨[], 3, hev, href _ (fun _ => rfl) (fun o ho => by rw [hE] at ho; cases ho) (fun _ => rfl), by simp, by simp⟩
  | some o =>
    rw [hE] at hev
    by_cases hbig : evNum cs > 100000
    · refine ⟨[], 3, by rw [hev]; dsimp only [evBack]; rw [if_pos hbig], href _ (fun _ => rfl) (fun _ _ h => by omega) (fun _ => rfl), by simp, by simp⟩
    have hL := hE
    rw [evGo_L cs _ _ 0 _ _ _ (by omega), List.drop_zero] at hL
    obtain ⟨⟨set', hF⟩, hs, -, hbb⟩ := fill_L (evNum cs) cs [] (-1) _ _ o (fill_start _) hL
    rw [List.nil_append] at hF
    have hol := hF.lo
    have hpo : ∀ e ∈ o, e.f3.f3.length ≤ 1048576 := by
      intro e he
      obtain ⟨i, hi, rfl⟩ := List.mem_iff_getElem.1 he
      have e0 : o[i] = J67 o (i : Int) := by
        unfold J67
        rw [Int.toNat_natCast, List.getD_eq_getElem?_getD, List.getElem?_eq_getElem hi]
        rfl
      rw [e0]
      cases hh : rdOf false set' (i : Int) with
      | false =>
        rw [hF.un (i : Int) (by omega) (by omega) hh]
        decide
      | true =>
        obtain ⟨e', he'⟩ := hF.us (i : Int) (by omega) (by omega) hh
        rw [(hF.pt _ he').2.2]
        obtain ⟨c, hc, hm⟩ := List.mem_flatMap.1 he'
        unfold putsOf at hm
        rcases List.mem_cons.1 hm with hm | hm
        · injection hm with _ hm
          rw [hm]
          show (0 : Nat) ≤ _
          omega
        · split at hm
          · simp at hm
          · simp only [List.mem_singleton] at hm
            injection hm with _ hm
            rw [hm]
            exact hp c hc
    obtain ⟨c, hc, hcR, hc0⟩ := check_both o
    dsimp only [evBack] at hev
    rw [if_neg hbig, hc, Option.bind_some] at hev
    by_cases hz : c = 0
    rotate_left
    · rw [if_neg hz] at hev
      have h3 : c = 3 := by
        unfold event_Check.f at hc
        rw [if_neg (by omega)] at hc
        have := Option.some.inj hc
        rcases chk_03 o o.length 0 (List.replicate 64 false) (List.replicate 64 z33) with h | h <;> omega
      refine ⟨[], 3, hev, href _ (fun _ => rfl) (fun o' ho' _ => ?_) (fun _ => rfl), by simp, by simp⟩
      rw [hE] at ho'
      cases ho'
      unfold tailR
      dsimp only [refEv]
      refine Ev.bind hcR ?_
      exact (Ev.const (([] : List S67), (3 : Int))).congr fun k => by rw [if_neg hz, h3]
    subst hz
    rw [if_pos rfl] at hev
    obtain ⟨r, own, A⟩ := all_of2 o hpo hc
    obtain ⟨-, -, r', own', hA', -, hcl, -⟩ := all_of o hpo hc
    have hrr : r' = r := by
      have := A.calls
      rw [hA'] at this
      cases this
      rfl
    subst hrr
    have hcall : event_calls.f o = some r' := A.go
    have hpr := pairs_of A hpo
    rw [hcall, Option.bind_some, if_pos hpr] at hev
    have hen := same_enum hF hs A
    have hrl : r'.length = cs.length := by simpa using congrArg List.length hen
    have hsc := fun (q : Int) q0 q1 => same_call hF hs hbb A q q0 q1
    have heq : eqcB r' cs = same4 r' cs cs.length 0 := by
      unfold eqcB
      rw [decide_eq_true hrl, Bool.true_and, hrl]
      exact same4_eq r' cs (fun q q0 q1 => (hsc q q0 q1).2) _ 0 (by omega)
    rw [heq] at hev
    have hX : ∀ X : List S67 × Int, (if same4 r' cs cs.length 0 = true then (o, (0 : Int)) else ([], 3)) = X → Ev (fun k => larchref05_Events.f k (cs.map conv)) X := fun X hX => by
      refine href X (fun h => by omega) (fun o' ho' _ => ?_) (fun h => by rw [hE] at h; cases h)
      rw [hE] at ho'
      cases ho'
      unfold tailR
      dsimp only [refEv]
      refine Ev.bind hcR ?_
      refine Ev.congr (g := fun k => (larchref05_calls.f k o).bind fun back => (cmpGo (cs.map conv) back (cs.map conv).length 0).bind fun b => if b = true then some (o, 0) else some ([], 3)) ?_ fun k => by rw [if_pos rfl]
      refine Ev.bind hcl ?_
      refine (Ev.const X).congr fun k => ?_
      rw [List.length_map, cmp_val cs r' hrl (fun q q0 q1 => (hsc q q0 q1).1) cs.length 0 (by omega), Option.bind_some, ← hX]
      split <;> rfl
    by_cases h4 : same4 r' cs cs.length 0 = true
    · rw [if_pos h4] at hev hX
      exact ⟨o, 0, hev, hX _ rfl, by omega, hpo⟩
    · rw [if_neg h4] at hev hX
      exact ⟨[], 3, hev, hX _ rfl, by simp, by simp⟩
theorem back_val (h : List S67) (r : List S38) (own : Nat → Int) (A : All h r own) (hp : ∀ e ∈ h, e.f3.f3.length ≤ 1048576) (hE : event_Check.f h = some 0) : event_Events.f r = some (h, 0) := by
  have hpr := pairs_of A hp
  have hn : evNum r = h.length := by
    rw [← A.half]
    unfold evNum twN donL
    congr 2
    refine List.filter_congr fun x hx => ?_
    rcases A.tw x hx with h1 | h1
    · simp [pendB, h1]
    · have e1 : decide (x.f4 < 0) = false := decide_eq_false (by omega)
      have e2 : (x.f4 == -1) = false := by simp; omega
      unfold pendB
      rw [e1, e2]
  have hlen := A.len
  have hrl := A.rl
  have hcall : event_calls.f h = some r := A.go
  unfold event_Events.f
  rw [if_neg (by omega), if_pos hpr, hn, evGo_L r _ _ 0 _ _ _ (by omega), List.drop_zero, rebuild A]
  dsimp only [evBack]
  rw [if_neg (by omega), hE, Option.bind_some, if_pos rfl, hcall, Option.bind_some, if_pos hpr]
  have : eqcB r r = true := by
    unfold eqcB
    rw [decide_eq_true rfl, Bool.true_and]
    have hg : ∀ d j, eqcGo r r d j = true := by
      intro d
      induction d with
      | zero => intro j; rfl
      | succ d ih =>
        intro j
        unfold eqcGo
        rw [ih]
        unfold callSame sameRetB
        simp [opSame, pairsGo_refl]
    exact hg _ _
  rw [this, if_pos rfl]
theorem calls_pure : EventCallsPure := by
  intro l0 l1 hl0 hp0 hl1 hp1
  suffices hev : Ev (fun k => larchlaw05_EventCalls.f k l0 l1) true from hev.ex
  obtain ⟨r, c, hA, hB, hC, hD, hE⟩ := Calls_both l0 hp0
  have hre : c = 0 ∨ c ≠ 0 := by omega
  have hpr : ∀ x ∈ r, x.f2.f3.length ≤ 1048576 := by
    rcases hre with h | h
    · subst h
      obtain ⟨r', own, A⟩ := all_of2 l0 hp0 hC
      have := A.calls
      rw [hA] at this
      cases this
      exact pairs_of A hp0
    · have := (bad_of l0 c hC h).1
      rw [hA] at this
      cases this
      simp
  have hp1' : ∀ x ∈ l1.map unc, x.f2.f3.length ≤ 1048576 := by
    intro x hx
    obtain ⟨y, hy, rfl⟩ := List.mem_map.1 hx
    exact hp1 y hy
  obtain ⟨v, e, hV, hW, hvl, hvp⟩ := events_both (l1.map unc) hp1'
  rw [conv_unc] at hW
  have hsv := se_ev v v hvl hvp
  rw [seB_refl] at hsv
  refine Ev.congr (g := fun k => (larchref05_Check.f k l0).bind fun t => larchlaw05_EventCalls.j0 k l0 l1 (c != t)) ?_ fun k => by
    unfold larchlaw05_EventCalls.f
    rw [known_ok3, Option.bind_some, if_pos rfl, hC, Option.bind_some]
  refine Ev.bind hD ?_
  rw [show (c != c) = false by simp]
  refine Ev.succ (Ev.congr (g := fun k => (larchref05_Calls.f k l0).bind fun t => (larchlaw05_are.f k r t.1).bind fun t2 => if t2 = true then larchlaw05_EventCalls.j1 k l0 l1 r (t.2 != c) else larchlaw05_EventCalls.j1 k l0 l1 r true) ?_ fun k => by
    rw [larchlaw05_EventCalls.j0.eq_2, if_neg (by decide), hA]
    rfl)
  refine Ev.bind hB (Ev.bind (are_ev r hpr) ?_)
  simp only [if_true]
  rw [show (c != c) = false by simp]
  refine Ev.succ (Ev.congr (g := fun k => (larchref05_Events.f k l1).bind fun t => (larchlaw05_our.f k l1).bind fun t2 => (event_Events.f t2).bind fun t3 => (larchref05_SameEvents.f k t.1 t3.1).bind fun t4 => if t4 = true then larchlaw05_EventCalls.j2 k l0 r (t.2 != t3.2) else larchlaw05_EventCalls.j2 k l0 r true) ?_ fun k => by
    rw [larchlaw05_EventCalls.j1.eq_2, if_neg (by decide)])
  refine Ev.bind hW (Ev.bind (our_ev l1 hl1 hp1) ?_)
  refine Ev.congr (g := fun k => (larchref05_SameEvents.f k v v).bind fun t4 => if t4 = true then larchlaw05_EventCalls.j2 k l0 r (e != e) else larchlaw05_EventCalls.j2 k l0 r true) ?_ fun k => by
    rw [hV]
    rfl
  refine Ev.bind hsv ?_
  simp only [if_true]
  rw [show (e != e) = false by simp]
  refine Ev.succ (Ev.congr (g := fun k => (larchref05_Check.f k l0).bind fun t => if t = 0 then ((event_Events.f r).bind fun b => if b.2 = 0 then ((larchref05_SameEvents.f k b.1 l0).bind fun t4 => some t4) else none) else some true) ?_ fun k => by
    rw [larchlaw05_EventCalls.j2.eq_2, if_neg (by decide)])
  refine Ev.bind hD ?_
  by_cases h0 : c = 0
  · subst h0
    obtain ⟨r', own, A⟩ := all_of2 l0 hp0 hC
    have hr' : r' = r := by
      have := A.calls
      rw [hA] at this
      cases this
      rfl
    subst hr'
    have hback := back_val l0 r' own A hp0 hC
    have hsl := se_ev l0 l0 A.len hp0
    rw [seB_refl] at hsl
    refine Ev.congr (g := fun k => (larchref05_SameEvents.f k l0 l0).bind fun t4 => some t4) ?_ fun k => by
      rw [if_pos rfl, hback]
      rfl
    exact Ev.bind hsl (Ev.const _)
  · exact (Ev.const true).congr fun k => by rw [if_neg h0]
theorem eventCalls_holds : Rows.EventCallsUptoSaid := EventCalls_of calls_pure
end Go.Proofs.Ytagdkmcgepidoaa.P
#print axioms Go.Proofs.Ytagdkmcgepidoaa.P.eventCalls_holds
