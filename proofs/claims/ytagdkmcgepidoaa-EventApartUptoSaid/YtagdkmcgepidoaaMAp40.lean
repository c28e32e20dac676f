/- P.eventApart_holds, part 41 of 41: the contracts of the Go functions that the law calls, its own walk, and its plain law, for every input that the statement speaks of. -/
import Derived.Test.YtagdkmcgepidoaaMAp38
import Derived.Test.YtagdkmcgepidoaaMAp6
import Derived.Test.YtagdkmcgepidoaaMAp2
import Derived.Test.YtagdkmcgepidoaaMAp39
import Derived.Test.YtagdkmcgepidoaaMAp33
import Derived.Test.YtagdkmcgepidoaaMAp28
import Derived.Test.YtagdkmcgepidoaaMAp37
import Derived.Test.YtagdkmcgepidoaaMAp5
import Derived.Test.YtagdkmcgepidoaaMAp35
import Derived.Test.YtagdkmcgepidoaaMAp30
import Derived.Test.YtagdkmcgepidoaaMAp4
set_option linter.unusedVariables false
set_option linter.unusedSimpArgs false
/- P16 -/
namespace Go.Proofs.Ytagdkmcgepidoaa.P
open Go.RowKit Go.Proofs.YtagdkmcgepidoaaW.PrintWords Go.Proofs.YtagdkmcgepidoaaW.PrintLast Go.Proofs.YtagdkmcgepidoaaW.PrintMore
def same4 (r cs : List S38) : Nat → Nat → Bool
  | 0, _ => true
  | d + 1, j => decide ((J38 r (j : Int)).f4 = (J38 cs (j : Int)).f4) && same4 r cs d (j + 1)
theorem same4_eq (r cs : List S38) (h : ∀ q : Int, 0 ≤ q → q < cs.length → callSame (J38 r q) (J38 cs q) = decide ((J38 r q).f4 = (J38 cs q).f4)) : ∀ d (j : Nat), j + d = cs.length → eqcGo r cs d j = same4 r cs d j
  | 0, _, _ => rfl
  | d + 1, j, hd => by
    unfold eqcGo same4
    rw [h (j : Int) (by omega) (by omega), same4_eq r cs h d (j + 1) (by omega)]
theorem cmp_val (cs r : List S38) (hr : r.length = cs.length) (h3 : ∀ q : Int, 0 ≤ q → q < cs.length → (J38 r q).f3 = (J38 cs q).f3) : ∀ d (j : Nat), j + d = cs.length → cmpGo (cs.map conv) (r.map conv) d j = some (same4 r cs d j)
  | 0, j, hd => rfl
  | d + 1, j, hd => by
    have e1 : J76 (cs.map conv) (j : Int) = (⟨(J38 cs (j : Int)).f0, (J38 cs (j : Int)).f1, (J38 cs (j : Int)).f2, (J38 cs (j : Int)).f3, (J38 cs (j : Int)).f4⟩ : S76) := rd76_map cs _ ⟨by omega, by omega⟩
    have e2 : J76 (r.map conv) (j : Int) = (⟨(J38 r (j : Int)).f0, (J38 r (j : Int)).f1, (J38 r (j : Int)).f2, (J38 r (j : Int)).f3, (J38 r (j : Int)).f4⟩ : S76) := rd76_map r _ ⟨by omega, by omega⟩
    have h3j := h3 (j : Int) (by omega) (by omega)
    unfold cmpGo same4
    rw [if_pos (by rw [List.length_map]; omega), e1, e2]
    dsimp only
    rw [if_pos h3j]
    by_cases h4 : (J38 r (j : Int)).f4 = (J38 cs (j : Int)).f4
    · rw [if_pos h4, decide_eq_true h4, Bool.true_and]
      exact cmp_val cs r hr h3 d (j + 1) (by omega)
    · rw [if_neg h4, decide_eq_false h4, Bool.false_and]
def tailR (cs : List S38) (k : Nat) (o : List S67) : Option (List S67 × Int) := refEv k (cs.map conv) (some o)
end Go.Proofs.Ytagdkmcgepidoaa.P
/- P17 -/
namespace Go.Proofs.Ytagdkmcgepidoaa.P
open Go.RowKit Go.Proofs.YtagdkmcgepidoaaW.PrintWords Go.Proofs.YtagdkmcgepidoaaW.PrintLast Go.Proofs.YtagdkmcgepidoaaW.PrintMore
theorem sameRetB_refl (a : S36) : sameRetB a a = true := by unfold sameRetB; simp [pairsGo_refl]
theorem are_go (r : List S38) (hp : ∀ c ∈ r, c.f2.f3.length ≤ 1048576) : ∀ d (j : Nat), j + d = r.length → Ev (fun k => areGo k r (r.map conv) d j) true
  | 0, j, hd => Ev.const _
  | d + 1, j, hd => by
    have e1 : J76 (r.map conv) (j : Int) = (⟨(J38 r (j : Int)).f0, (J38 r (j : Int)).f1, (J38 r (j : Int)).f2, (J38 r (j : Int)).f3, (J38 r (j : Int)).f4⟩ : S76) := rd76_map r _ ⟨by omega, by omega⟩
    have hs := sameRet_ev (J38 r (j : Int)).f2 (J38 r (j : Int)).f2 (hp _ (mem38 r _ (by omega) (by omega)))
    rw [sameRetB_refl] at hs
    refine Ev.congr (g := fun k => (larchref05_SameRet.f k (J38 r (j : Int)).f2.f0 (J38 r (j : Int)).f2.f1 (J38 r (j : Int)).f2.f2 (J38 r (j : Int)).f2.f3 (J38 r (j : Int)).f2.f0 (J38 r (j : Int)).f2.f1 (J38 r (j : Int)).f2.f2 (J38 r (j : Int)).f2.f3).bind fun t => if t = true then areGo k r (r.map conv) d (j + 1) else none) ?_ fun k => by
      show (if areB _ (J76 (r.map conv) (j : Int)) = true then _ else none) = _
      rw [e1, if_pos (by unfold areB; simp [opSame])]
    exact Ev.bind hs ((are_go r hp d (j + 1) (by omega)).congr fun k => by rw [if_pos rfl])
theorem are_ev (r : List S38) (hp : ∀ c ∈ r, c.f2.f3.length ≤ 1048576) : Ev (fun k => larchlaw05_are.f k r (r.map conv)) true :=
  (are_go r hp r.length 0 (by omega)).congr fun k => by
    unfold larchlaw05_are.f
    rw [if_pos (by rw [List.length_map])]
theorem pairs_of {h : List S67} {r : List S38} {own : Nat → Int} (A : All h r own) (hp : ∀ e ∈ h, e.f3.f3.length ≤ 1048576) : ∀ c ∈ r, c.f2.f3.length ≤ 1048576 := by
  have hC := cont_of A
  intro c hc
  obtain ⟨i, hi, rfl⟩ := List.mem_iff_getElem.1 hc
  rw [rd38_get r i hi]
  by_cases h4 : (J38 r (i : Int)).f4 = -1
  · rw [hC.pn (i : Int) (by omega) (by omega) h4]
    decide
  · have hr := hC.rt (i : Int) (by omega) (by omega) h4
    rcases A.ow.tw (i : Int) (by omega) (by omega) with ht | ⟨⟨t0, t1⟩, _⟩
    · exact absurd ht h4
    have := hp _ (rd67_mem h (J38 r (i : Int)).f4.toNat (by omega))
    rw [Int.toNat_of_nonneg t0, hr] at this
    exact this
theorem chk_03 (l0 : List S67) : ∀ d (j : Nat) (op : List Bool) (ops : List S33), chkGo l0 d j op ops = 0 ∨ chkGo l0 d j op ops = 3
  | 0, _, _, _ => .inl rfl
  | d + 1, j, op, ops => by
    unfold chkGo
    split
    · exact .inr rfl
    · split
      · exact chk_03 l0 d (j + 1) _ _
      · exact .inr rfl
theorem events_both (cs : List S38) (hp : ∀ c ∈ cs, c.f2.f3.length ≤ 1048576) : ∃ (v : List S67) (c : Int), event_Events.f cs = some (v, c) ∧ Ev (fun k => larchref05_Events.f k (cs.map conv)) (v, c) ∧ v.length ≤ 100000 ∧ ∀ e ∈ v, e.f3.f3.length ≤ 1048576 := by
  have hlen : (((cs.map conv).length : Nat) : Int) = (cs.length : Int) := by rw [List.length_map]
  by_cases hb : cs.length > 100000
  · refine ⟨[], 2, ?_, (Ev.const (([] : List S67), (2 : Int))).congr fun k => ?_, by simp, by simp⟩
    · unfold event_Events.f
      rw [if_pos hb]
    · unfold larchref05_Events.f
      rw [if_pos (by rw [List.length_map]; omega)]
  have hev : event_Events.f cs = evBack cs (evGo cs (evNum cs) cs.length 0 (-1) (List.replicate (evNum cs) false) (List.replicate (evNum cs) z67)) := by
    unfold event_Events.f
    rw [if_neg hb, if_pos hp]
  have hn2 : evNum cs ≤ 200000 := by have := tw_le cs; unfold evNum; omega
  have href : ∀ X : List S67 × Int, (evNum cs > 100000 → X = ([], 3)) → (∀ o, evGo cs (evNum cs) cs.length 0 (-1) (List.replicate (evNum cs) false) (List.replicate (evNum cs) z67) = some o → evNum cs ≤ 100000 → Ev (fun k => tailR cs k o) X) → (evGo cs (evNum cs) cs.length 0 (-1) (List.replicate (evNum cs) false) (List.replicate (evNum cs) z67) = none → X = ([], 3)) → Ev (fun k => larchref05_Events.f k (cs.map conv)) X := fun X h1 h2 h3 => by
    have hu : (cs.map conv).map unc = cs := by
      rw [List.map_map]
      exact List.map_id'' (fun x => rfl) cs
    have hpc : ∀ c ∈ cs.map conv, c.f2.f3.length ≤ 1048576 := by
      intro c hc
      obtain ⟨d, hd, rfl⟩ := List.mem_map.1 hc
      exact hp d hd
    have hf : ∀ k, larchref05_Events.f k (cs.map conv) = if evNum cs > 100000 then some ([], 3) else refEv k (cs.map conv) (evGo cs (evNum cs) cs.length 0 (-1) (List.replicate (evNum cs) false) (List.replicate (evNum cs) z67)) := fun k => by
      unfold larchref05_Events.f
      rw [if_neg (by rw [List.length_map]; omega), hu, if_pos hpc, List.length_map]
    by_cases hbg : evNum cs > 100000
    · exact (Ev.const (([] : List S67), (3 : Int))).congr' (h1 hbg) fun k => by rw [hf, if_pos hbg]
    cases hE : evGo cs (evNum cs) cs.length 0 (-1) (List.replicate (evNum cs) false) (List.replicate (evNum cs) z67) with
    | none => exact (Ev.const (([] : List S67), (3 : Int))).congr' (h3 hE) fun k => by rw [hf, if_neg hbg, hE]; rfl
    | some o => exact (h2 o hE (by omega)).congr fun k => by rw [hf, if_neg hbg, hE]; rfl
  cases hE : evGo cs (evNum cs) cs.length 0 (-1) (List.replicate (evNum cs) false) (List.replicate (evNum cs) z67) with
  | none =>
    rw [hE] at hev
    exact ⟨[], 3, hev, href _ (fun _ => rfl) (fun o ho => by rw [hE] at ho; cases ho) (fun _ => rfl), by simp, by simp⟩
  | some o =>
    rw [hE] at hev
    by_cases hbig : evNum cs > 100000
    · refine ⟨[], 3, by rw [hev]; dsimp only [evBack]; rw [if_pos hbig], href _ (fun _ => rfl) (fun _ _ h => by omega) (fun _ => rfl), by simp, by simp⟩
    have hL := hE
    rw [evGo_L cs _ _ 0 _ _ _ (by omega), List.drop_zero] at hL
    obtain ⟨⟨set', hF⟩, hs, -, hbb⟩ := fill_L (evNum cs) cs [] (-1) _ _ o (fill_start _) hL
    rw [List.nil_append] at hF
    have hol := hF.lo
    have hpo : ∀ e ∈ o, e.f3.f3.length ≤ 1048576 := by
      intro e he
      obtain ⟨i, hi, rfl⟩ := List.mem_iff_getElem.1 he
      have e0 : o[i] = J67 o (i : Int) := by
        unfold J67
        rw [Int.toNat_natCast, List.getD_eq_getElem?_getD, List.getElem?_eq_getElem hi]
        rfl
      rw [e0]
      cases hh : rdOf false set' (i : Int) with
      | false =>
        rw [hF.un (i : Int) (by omega) (by omega) hh]
        decide
      | true =>
        obtain ⟨e', he'⟩ := hF.us (i : Int) (by omega) (by omega) hh
        rw [(hF.pt _ he').2.2]
        obtain ⟨c, hc, hm⟩ := List.mem_flatMap.1 he'
        unfold putsOf at hm
        rcases List.mem_cons.1 hm with hm | hm
        · injection hm with _ hm
          rw [hm]
          show (0 : Nat) ≤ _
          omega
        · split at hm
          · simp at hm
          · simp only [List.mem_singleton] at hm
            injection hm with _ hm
            rw [hm]
            exact hp c hc
    obtain ⟨c, hc, hcR, hc0⟩ := check_both o
    dsimp only [evBack] at hev
    rw [if_neg hbig, hc, Option.bind_some] at hev
    by_cases hz : c = 0
    rotate_left
    · rw [if_neg hz] at hev
      have h3 : c = 3 := by
        unfold event_Check.f at hc
        rw [if_neg (by omega)] at hc
        have := Option.some.inj hc
        rcases chk_03 o o.length 0 (List.replicate 64 false) (List.replicate 64 z33) with h | h <;> omega
      refine ⟨[], 3, hev, href _ (fun _ => rfl) (fun o' ho' _ => ?_) (fun _ => rfl), by simp, by simp⟩
      rw [hE] at ho'
      cases ho'
      unfold tailR
      dsimp only [refEv]
      refine Ev.bind hcR ?_
      exact (Ev.const (([] : List S67), (3 : Int))).congr fun k => by rw [if_neg hz, h3]
    subst hz
    rw [if_pos rfl] at hev
    obtain ⟨r, own, A⟩ := all_of2 o hpo hc
    obtain ⟨-, -, r', own', hA', -, hcl, -⟩ := all_of o hpo hc
    have hrr : r' = r := by
      have := A.calls
      rw [hA'] at this
      cases this
      rfl
    subst hrr
    have hcall : event_calls.f o = some r' := A.go
    have hpr := pairs_of A hpo
    rw [hcall, Option.bind_some, if_pos hpr] at hev
    have hen := same_enum hF hs A
    have hrl : r'.length = cs.length := by simpa using congrArg List.length hen
    have hsc := fun (q : Int) q0 q1 => same_call hF hs hbb A q q0 q1
    have heq : eqcB r' cs = same4 r' cs cs.length 0 := by
      unfold eqcB
      rw [decide_eq_true hrl, Bool.true_and, hrl]
      exact same4_eq r' cs (fun q q0 q1 => (hsc q q0 q1).2) _ 0 (by omega)
    rw [heq] at hev
    have hX : ∀ X : List S67 × Int, (if same4 r' cs cs.length 0 = true then (o, (0 : Int)) else ([], 3)) = X → Ev (fun k => larchref05_Events.f k (cs.map conv)) X := fun X hX => by
      refine href X (fun h => by omega) (fun o' ho' _ => ?_) (fun h => by rw [hE] at h; cases h)
      rw [hE] at ho'
      cases ho'
      unfold tailR
      dsimp only [refEv]
      refine Ev.bind hcR ?_
      refine Ev.congr (g := fun k => (larchref05_calls.f k o).bind fun back => (cmpGo (cs.map conv) back (cs.map conv).length 0).bind fun b => if b = true then some (o, 0) else some ([], 3)) ?_ fun k => by rw [if_pos rfl]
      refine Ev.bind hcl ?_
      refine (Ev.const X).congr fun k => ?_
      rw [List.length_map, cmp_val cs r' hrl (fun q q0 q1 => (hsc q q0 q1).1) cs.length 0 (by omega), Option.bind_some, ← hX]
      split <;> rfl
    by_cases h4 : same4 r' cs cs.length 0 = true
    · rw [if_pos h4] at hev hX
      exact ⟨o, 0, hev, hX _ rfl, by omega, hpo⟩
    · rw [if_neg h4] at hev hX
      exact ⟨[], 3, hev, hX _ rfl, by simp, by simp⟩
theorem back_val (h : List S67) (r : List S38) (own : Nat → Int) (A : All h r own) (hp : ∀ e ∈ h, e.f3.f3.length ≤ 1048576) (hE : event_Check.f h = some 0) : event_Events.f r = some (h, 0) := by
  have hpr := pairs_of A hp
  have hn : evNum r = h.length := by
    rw [← A.half]
    unfold evNum twN donL
    congr 2
    refine List.filter_congr fun x hx => ?_
    rcases A.tw x hx with h1 | h1
    · simp [pendB, h1]
    · have e1 : decide (x.f4 < 0) = false := decide_eq_false (by omega)
      have e2 : (x.f4 == -1) = false := by simp; omega
      unfold pendB
      rw [e1, e2]
  have hlen := A.len
  have hrl := A.rl
  have hcall : event_calls.f h = some r := A.go
  unfold event_Events.f
  rw [if_neg (by omega), if_pos hpr, hn, evGo_L r _ _ 0 _ _ _ (by omega), List.drop_zero, rebuild A]
  dsimp only [evBack]
  rw [if_neg (by omega), hE, Option.bind_some, if_pos rfl, hcall, Option.bind_some, if_pos hpr]
  have : eqcB r r = true := by
    unfold eqcB
    rw [decide_eq_true rfl, Bool.true_and]
    have hg : ∀ d j, eqcGo r r d j = true := by
      intro d
      induction d with
      | zero => intro j; rfl
      | succ d ih =>
        intro j
        unfold eqcGo
        rw [ih]
        unfold callSame sameRetB
        simp [opSame, pairsGo_refl]
    exact hg _ _
  rw [this, if_pos rfl]
end Go.Proofs.Ytagdkmcgepidoaa.P
/- P18 -/
namespace Go.Proofs.Ytagdkmcgepidoaa.P
open Go.RowKit Go.Proofs.YtagdkmcgepidoaaW.PrintWords Go.Proofs.YtagdkmcgepidoaaW.PrintLast Go.Proofs.YtagdkmcgepidoaaW.PrintMore
theorem copy_go2 (x : List S67) (hx : x.length ≤ 2000000) (hp : ∀ e ∈ x, e.f3.f3.length ≤ 1048576) : ∀ d (j : Nat) (out : List S67), j + d = x.length → out.length ≤ j → Ev (fun k => larchref05_CopyEvents.l0 k x out (j : Int)) (out ++ x.drop j)
  | 0, j, out, hd, _ => by
    refine Ev.succ ((Ev.const out).congr' (by rw [List.drop_eq_nil_of_le (by omega), List.append_nil]) fun k => ?_)
    simp only [larchref05_CopyEvents.l0]
    rw [if_neg (by omega)]
  | d + 1, j, out, hd, ho => by
    have hpe := hp _ (rd67_mem x j (by omega))
    refine Ev.succ ((copy_go2 x hx hp d (j + 1) (out ++ [J67 x (j : Int)]) (by omega) (by simp; omega)).congr' (by rw [drop67 x j (by omega)]; simp) fun k => ?_)
    simp only [larchref05_CopyEvents.l0]
    rw [if_pos (by omega), if_pos (by omega)]
    unfold larchref05_CopyRet.f
    simp only [Option.bind_some, List.length_nil, List.nil_append]
    rw [if_pos (by omega)]
    simp only [Option.bind_some]
    rw [if_pos (by omega), wrap_succ (by omega)]
theorem copy_ev2 (x : List S67) (hx : x.length ≤ 2000000) (hp : ∀ e ∈ x, e.f3.f3.length ≤ 1048576) : Ev (fun k => larchref05_CopyEvents.f k x) x := by
  have := copy_go2 x hx hp x.length 0 [] (by omega) (by simp)
  simpa [larchref05_CopyEvents.f] using this
theorem se_go2 (xs ys : List S67) (hl : xs.length = ys.length) (hx : xs.length ≤ 2000000) (hp : ∀ e ∈ xs, e.f3.f3.length ≤ 1048576) : ∀ d (j : Nat), j + d = xs.length → Ev (fun k => larchref05_SameEvents.l0 k xs ys (j : Int)) (seGo xs ys d j)
  | 0, j, hd => by
    refine Ev.succ ((Ev.const true).congr fun k => ?_)
    simp only [larchref05_SameEvents.l0]
    rw [if_neg (by omega)]
  | d + 1, j, hd => by
    have ih := se_go2 xs ys hl hx hp d (j + 1) (by omega)
    have hs := sameEvent_ev (J67 xs (j : Int)) (J67 ys (j : Int)) (hp _ (rd67_mem xs j (by omega)))
    unfold seGo
    obtain ⟨b, hb⟩ : ∃ b, ((J67 xs (j : Int)).f0 == (J67 ys (j : Int)).f0 && evSame (J67 xs (j : Int)) (J67 ys (j : Int))) = b := ⟨_, rfl⟩
    rw [hb] at hs ⊢
    refine Ev.succ (Ev.congr (g := fun k => (larchref05_sameEvent.f k (J67 xs (j : Int)).f0 (J67 xs (j : Int)).f1 (J67 xs (j : Int)).f2.f0 (J67 xs (j : Int)).f2.f1 (J67 xs (j : Int)).f2.f2 (J67 xs (j : Int)).f2.f3 (J67 xs (j : Int)).f3.f0 (J67 xs (j : Int)).f3.f1 (J67 xs (j : Int)).f3.f2 (J67 xs (j : Int)).f3.f3 (J67 ys (j : Int)).f0 (J67 ys (j : Int)).f1 (J67 ys (j : Int)).f2.f0 (J67 ys (j : Int)).f2.f1 (J67 ys (j : Int)).f2.f2 (J67 ys (j : Int)).f2.f3 (J67 ys (j : Int)).f3.f0 (J67 ys (j : Int)).f3.f1 (J67 ys (j : Int)).f3.f2 (J67 ys (j : Int)).f3.f3).bind fun t272 => if t272 = true then larchref05_SameEvents.l0 k xs ys (((j + 1 : Nat) : Int)) else some false) ?_ fun k => ?_)
    · refine Ev.bind hs ?_
      cases b with
      | true => simpa using ih
      | false => simpa using Ev.const false
    · simp only [larchref05_SameEvents.l0]
      rw [if_pos (by omega), if_pos (by omega), if_pos (by omega), wrap_succ (by omega)]
theorem se_ev2 (xs ys : List S67) (hx : xs.length ≤ 2000000) (hp : ∀ e ∈ xs, e.f3.f3.length ≤ 1048576) : Ev (fun k => larchref05_SameEvents.f k xs ys) (seB xs ys) := by
  unfold larchref05_SameEvents.f seB
  by_cases h : xs.length = ys.length
  · rw [decide_eq_true h, Bool.true_and]
    refine (se_go2 xs ys h hx hp xs.length 0 (by omega)).congr fun k => ?_
    rw [if_pos (by omega)]
    rfl
  · rw [decide_eq_false h, Bool.false_and]
    refine (Ev.const false).congr fun k => ?_
    rw [if_neg (by omega)]
theorem z67_len : z67.f3.f3.length = 0 := rfl
theorem apart_pure : EventApartPure := by
  intro l0 hl0 hp0
  have hp6 : ∀ e ∈ l0 ++ List.replicate 6 z67, e.f3.f3.length ≤ 1048576 := by
    intro e he
    rcases List.mem_append.1 he with he | he
    · exact hp0 e he
    · rw [(List.mem_replicate.1 he).2, z67_len]; omega
  have pairs : ∀ (l : List S67) (r : List S38) (c : Int), (∀ e ∈ l, e.f3.f3.length ≤ 1048576) → event_Calls.f l = some (r, c) → event_Check.f l = some c → ∀ x ∈ r, x.f2.f3.length ≤ 1048576 := by
    intro l r c hp hA hC
    by_cases h : c = 0
    · subst h
      obtain ⟨r', own, A⟩ := all_of2 l hp hC
      have := A.calls
      rw [hA] at this
      cases this
      exact pairs_of A hp
    · have := (bad_of l c hC h).1
      rw [hA] at this
      cases this
      simp
  obtain ⟨r, c, hA, ⟨K1, hB⟩, hC, hD, hE⟩ := Calls_both l0 hp0
  have hpr := pairs l0 r c hp0 hA hC
  obtain ⟨back, e5, hV, -, -, -⟩ := events_both r hpr
  obtain ⟨cut, e2, hcA, ⟨K2, hcB⟩, -, ⟨K3, hcD⟩⟩ := cut_both l0 hp0 ((l0.length : Int) / 4)
  obtain ⟨don, e3, hdA, ⟨K4, hdB⟩, -, ⟨K5, hdD⟩⟩ := done_both l0 hp0
  obtain ⟨ofl, e4, hoA, ⟨K6, hoB⟩, -, ⟨K7, hoD⟩⟩ := of_all l0 hp0 0
  obtain ⟨K8, hcp⟩ := copy_ev2 l0 (by omega) hp0
  obtain ⟨K9, hc6⟩ := copy_ev2 (l0 ++ List.replicate 6 z67) (by simp; omega) hp6
  obtain ⟨K10, hs6⟩ := se_ev2 (l0 ++ List.replicate 6 z67) (l0 ++ List.replicate 6 z67) (by simp; omega) hp6
  rw [seB_refl] at hs6
  obtain ⟨K11, har⟩ := are_ev r hpr
  obtain ⟨K12, hsl⟩ := se_ev2 l0 l0 (by omega) hp0
  rw [seB_refl] at hsl
  refine ⟨K1 + K2 + K3 + K4 + K5 + K6 + K7 + K8 + K9 + K10 + K11 + K12, r, c, cut, don, ofl, back, r.map conv, cut, don, ofl, e2, e3, e4, e5, e2, e3, e4,
    known_ok3, hcp _ (by omega), hc6 _ (by omega), hA, hcA, hdA, hoA, hV, hs6 _ (by omega), hB _ (by omega), hcB _ (by omega), hdB _ (by omega), hoB _ (by omega), har _ (by omega), hcD _ (by omega), hdD _ (by omega), hoD _ (by omega), ?_, ?_⟩
  · intro hz
    obtain rfl : c = 0 := by simpa using hz
    obtain ⟨r', own, A⟩ := all_of2 l0 hp0 hC
    have := A.calls
    rw [hA] at this
    cases this
    have hb := back_val l0 r own A hp0 hC
    rw [hV] at hb
    cases hb
    exact hsl _ (by omega)
  · intro ys hy
    have hyl := shp67_len hy
    have hpy : ∀ e ∈ ys, e.f3.f3.length ≤ 1048576 := by
      intro e he
      have h1 : e.f3.f3.length ∈ shp67 ys := List.mem_map_of_mem (f := fun e : S67 => e.f3.f3.length) he
      rw [hy] at h1
      obtain ⟨x, hx, h2⟩ := List.mem_map.1 h1
      have h3 : x.f3.f3.length = e.f3.f3.length := h2
      have := hp0 x hx
      omega
    obtain ⟨r2, c2, gA, ⟨M1, gB⟩, gC, -, -⟩ := Calls_both ys hpy
    obtain ⟨M2, gcp⟩ := copy_ev2 ys (by omega) hpy
    obtain ⟨M3, gar⟩ := are_ev r2 (pairs ys r2 c2 hpy gA gC)
    exact ⟨M1 + M2 + M3, r2, c2, r2.map conv, gcp _ (by omega), gA, gB _ (by omega), gar _ (by omega)⟩
theorem eventApart_holds : Rows.EventApartUptoSaid := EventApart_of apart_pure
end Go.Proofs.Ytagdkmcgepidoaa.P
#print axioms Go.Proofs.Ytagdkmcgepidoaa.P.eventApart_holds
