/- P.eventTurns_holds, part 16 of 26: the contracts of the Go functions that the law calls, its own walk, and its plain law, for every input that the statement speaks of. -/
import Derived.Test.YtagdkmcgepidoaaMTu14
import Derived.Test.YtagdkmcgepidoaaMTu2
set_option linter.unusedVariables false
set_option linter.unusedSimpArgs false
/- E10 -/
namespace Go.Proofs.Ytagdkmcgepidoaa.P
open Go.RowKit Go.Proofs.YtagdkmcgepidoaaW.PrintWords Go.Proofs.YtagdkmcgepidoaaW.PrintLast Go.Proofs.YtagdkmcgepidoaaW.PrintMore
attribute [local go_sem high] eqA33
def pairsGo (a b : List S70) : Nat → Nat → Bool
  | 0, _ => true
  | d + 1, j => ((J70 a (j : Int)).f0 == (J70 b (j : Int)).f0 && (J70 a (j : Int)).f1 == (J70 b (j : Int)).f1) && pairsGo a b d (j + 1)
def sameRetB (a b : S36) : Bool := a.f0 == b.f0 && (a.f1 == b.f1 && (a.f2 == b.f2 && (decide (a.f3.length = b.f3.length) && pairsGo a.f3 b.f3 a.f3.length 0)))
theorem pair71_go (a b : List S70) (hl : a.length = b.length) (ha : a.length ≤ 1048576) : ∀ (d j k : Nat), j + d = a.length → d < k → api_Pair_71.l0 k a b (a.length : Int) (j : Int) = some (pairsGo a b d j)
  | 0, j, k, hd, hk => by
    obtain ⟨m, rfl⟩ : ∃ m, k = m + 1 := ⟨k - 1, by omega⟩
    simp only [api_Pair_71.l0, pairsGo]
    rw [if_neg (by omega)]
  | d + 1, j, k, hd, hk => by
    obtain ⟨m, rfl⟩ : ∃ m, k = m + 1 := ⟨k - 1, by omega⟩
    have ih := pair71_go a b hl ha d (j + 1) m (by omega) (by omega)
    have hw : wrap64 ((j : Int) + 1) = ((j + 1 : Nat) : Int) := by unfold wrap64; omega
    simp only [api_Pair_71.l0, pairsGo]
    rw [if_pos (by omega), if_pos (by omega), if_pos (by omega), if_pos (by omega), hw]
    by_cases h0 : (J70 a (j : Int)).f0 = (J70 b (j : Int)).f0
    · by_cases h1 : (J70 a (j : Int)).f1 = (J70 b (j : Int)).f1
      · rw [if_neg (by simp [h0, h1]), ih]
        simp [h0, h1]
      · rw [if_pos (by simp [h1])]
        simp [h1]
    · rw [if_pos (by simp [h0])]
      simp [h0]
theorem sameRet_is (a b : S36) (ha : a.f3.length ≤ 1048576) : event_sameRet.f 1048577 a.f0 a.f1 a.f2 a.f3 b.f0 b.f1 b.f2 b.f3 = some (sameRetB a b) := by
  unfold event_sameRet.f api_Pair_71.f sameRetB
  by_cases h0 : a.f0 = b.f0
  · by_cases h1 : a.f1 = b.f1
    · by_cases h2 : a.f2 = b.f2
      · by_cases h3 : a.f3.length = b.f3.length
        · rw [if_pos (by simp [h0]), if_pos h1, if_pos h2, if_pos (by omega)]
          have := pair71_go a.f3 b.f3 h3 ha a.f3.length 0 1048577 (by omega) (by omega)
          rw [show (0 : Int) = ((0 : Nat) : Int) from rfl, this]
          simp [h0, h1, h2, h3]
        · rw [if_pos (by simp [h0]), if_pos h1, if_pos h2, if_neg (by omega)]
          simp [h3]
      · rw [if_pos (by simp [h0]), if_pos h1, if_neg h2]
        simp [h2]
    · rw [if_pos (by simp [h0]), if_neg h1]
      simp [h1]
  · rw [if_neg (by simp [h0])]
    simp [h0]
def evSame (a b : S67) : Bool := a.f1 == b.f1 && (opSame a.f2 b.f2 && sameRetB a.f3 b.f3)
set_option maxHeartbeats 8000000 in
set_option maxRecDepth 100000 in
theorem same1_calls (a b : S67) (A B : Option Addr) (ca cb : Nat) (w : World) (hA : Kd.C k70 w A a.f3.f3.length a.f3.f3) (hB : Kd.C k70 w B b.f3.f3.length b.f3.f3) (hca : a.f3.f3.length ≤ ca) (hcb : b.f3.f3.length ≤ cb) (ha : a.f3.f3.length ≤ 1048576) (r : Bool) (h : evSame a b = r) :
    Calls Try.prog 61 #[.agg #[.int .i64 a.f0, .bool a.f1, .int .i64 a.f2.f0, .int .i64 a.f2.f1, .int .i64 a.f2.f2, .int .i64 a.f2.f3, .bool a.f3.f0, .int .i64 a.f3.f1, .int .i64 a.f3.f2, .slice A a.f3.f3.length ca], .agg #[.int .i64 b.f0, .bool b.f1, .int .i64 b.f2.f0, .int .i64 b.f2.f1, .int .i64 b.f2.f2, .int .i64 b.f2.f3, .bool b.f3.f0, .int .i64 b.f3.f1, .int .i64 b.f3.f2, .slice B b.f3.f3.length cb]] w fun e w' => e = .returned (.bool r) ∧ Below w.heap.size w w' := by
  have hu67 := Try.underlying67
  have hu36 := Try.underlying36
  have hu33 := Try.underlying33
  unfold evSame at h
  obtain ⟨q, hq⟩ : ∃ q, q = b.f1 := ⟨_, rfl⟩
  rw [← hq] at h ⊢
  clear hq
  obtain ⟨p, hp⟩ : ∃ p, p = a.f1 := ⟨_, rfl⟩
  rw [← hp] at h ⊢
  clear hp
  by_cases h1 : p = q
  · subst h1
    by_cases h2 : opSame a.f2 b.f2 = true
    · have H := Aside0.mk (show event_sameRet.f 1048577 a.f3.f0 a.f3.f1 a.f3.f2 a.f3.f3 b.f3.f0 b.f3.f1 b.f3.f2 b.f3.f3 = some r by rw [sameRet_is a.f3 b.f3 ha, ← h]; simp [h2])
      unfold opSame at h2
      clear h
      go_enter Try.func61, Try.ntmps61
      go_wp2_with (go_at_call 62; refine (event_sameRet.calls 1048577 a.f3.f0 a.f3.f1 a.f3.f2 A ca a.f3.f3 b.f3.f0 b.f3.f1 b.f3.f2 B cb b.f3.f3 r _ (Kd.C_alloc (Kd.C_alloc hA _) _) hca (Kd.C_alloc (Kd.C_alloc hB _) _) hcb H.out).mono ?_; rintro e w2 ⟨rfl, hb2⟩; have HB2 := Aside0.mk (below_step (below_alloc (below_alloc (Below.refl _ _) _) _) hb2); clear hb2)
      go_ret
      exact ⟨rfl, HB2.out⟩
    · have h2' : opSame a.f2 b.f2 = false := by simpa using h2
      rw [h2'] at h
      simp only [beq_self_eq_true, Bool.false_and, Bool.and_false] at h
      subst h
      unfold opSame at h2'
      go_enter Try.func61, Try.ntmps61
      go_wp2
      go_ret
      exact ⟨rfl, below_alloc (below_alloc (Below.refl _ _) _) _⟩
  · have h1' : (p == q) = false := by simpa using h1
    rw [h1', Bool.false_and] at h
    subst h
    go_enter Try.func61, Try.ntmps61
    go_wp2
    go_ret
    exact ⟨rfl, below_alloc (below_alloc (Below.refl _ _) _) _⟩
def eqGo (xs ys : List S67) : Nat → Nat → Bool
  | 0, _ => true
  | d + 1, j => evSame (J67 xs (j : Int)) (J67 ys (j : Int)) && eqGo xs ys d (j + 1)
def eqB (xs ys : List S67) : Bool := decide (xs.length = ys.length) && eqGo xs ys xs.length 0
set_option maxHeartbeats 8000000 in
set_option maxRecDepth 100000 in
theorem equal_calls (A B : Option Addr) (ca cb : Nat) (xs ys : List S67) (w : World) (hA : Kd.C k67 w A xs.length xs) (hB : Kd.C k67 w B ys.length ys) (hps : ∀ e ∈ xs, e.f3.f3.length ≤ 1048576) :
    Calls Try.prog 60 #[.slice A xs.length ca, .slice B ys.length cb, .func (.func 61) #[] #[]] w fun e w' => e = .returned (.bool (eqB xs ys)) ∧ Below w.heap.size w w' := by
  have hu67 := Try.underlying67
  have hmx : xs.length ≤ 9223372036854775807 := hA.2.1
  unfold eqB
  by_cases hl : xs.length = ys.length
  rotate_left
  · rw [decide_eq_false hl, Bool.false_and]
    have hl' : ((xs.length : Int) != (ys.length : Int)) = true := by simp; omega
    go_enter Try.func60, Try.ntmps60
    go_wp2
    go_ret
    exact ⟨rfl, Below.refl _ _⟩
  rw [decide_eq_true hl, Bool.true_and]
  have hl' : ((xs.length : Int) != (ys.length : Int)) = false := by simp; omega
  obtain ⟨r, hr⟩ : ∃ r, eqGo xs ys xs.length 0 = r := ⟨_, rfl⟩
  rw [hr]
  have HR := Aside0.mk hr
  have HL := Aside0.mk hl
  clear hr hl
  go_enter Try.func60, Try.ntmps60
  go_wp2
  go_loopw [17] (fun v17 W => ∃ (j : Nat), v17 = .int .i64 (j : Int) ∧ j ≤ xs.length ∧ Aside0 (eqGo xs ys (xs.length - j) j = r) ∧ Aside0 (Below w.heap.size w W)) (fun v17 _ => xs.length - (intOf v17).toNat)
  case atStart => exact ⟨0, rfl, Nat.zero_le _, HR, ⟨Below.refl _ _⟩⟩
  case round =>
    obtain ⟨j, rfl, hj, HG, HB⟩ := hrel
    by_cases hlt : j < xs.length
    · have hg := HG.out
      rw [show xs.length - j = (xs.length - (j + 1)) + 1 by omega] at hg
      simp only [eqGo] at hg
      have hlty : j < ys.length := by have := HL.out; omega
      obtain ⟨n, hn⟩ : ∃ n, n = J67 xs (j : Int) := ⟨_, rfl⟩
      obtain ⟨m, hm⟩ : ∃ m, m = J67 ys (j : Int) := ⟨_, rfl⟩
      rw [← hn, ← hm] at hg
      have hin : n ∈ xs := by
        rw [hn]
        unfold J67
        rw [Int.toNat_natCast, List.getD_eq_getElem?_getD, List.getElem?_eq_getElem (by omega)]
        exact List.getElem_mem _
      have HPS := Aside0.mk (hps n hin)
      obtain ⟨ad2, A9, c9, ea, y0, y1, y2, y3, y4, y5, y6, y7, y8, y9, hc9, hr9⟩ := at_T67 (Kd.C_below hA HB.out) (j : Int) (by omega) (by omega)
      cases ea
      obtain ⟨ad3, B9, d9, ea, z0, z1, z2, z3, z4, z5, z6, z7, z8, z9, hd9, hs9⟩ := at_T67 (Kd.C_below hB HB.out) (j : Int) (by omega) (by omega)
      cases ea
      rw [← hn] at y0 y1 y2 y3 y4 y5 y6 y7 y8 y9 hc9 hr9
      rw [← hm] at z0 z1 z2 z3 z4 z5 z6 z7 z8 z9 hd9 hs9
      simp only [Int.toNat_natCast] at y0 y1 y2 y3 y4 y5 y6 y7 y8 y9 z0 z1 z2 z3 z4 z5 z6 z7 z8 z9
      have u0 := pw_cell_below (below_alloc (Below.refl _ _) (.cells #[.int .i64 n.f0, .bool n.f1, .int .i64 n.f2.f0, .int .i64 n.f2.f1, .int .i64 n.f2.f2, .int .i64 n.f2.f3, .bool n.f3.f0, .int .i64 n.f3.f1, .int .i64 n.f3.f2, .slice A9 n.f3.f3.length c9] 67)) z0
      have u1 := pw_cell_below (below_alloc (Below.refl _ _) (.cells #[.int .i64 n.f0, .bool n.f1, .int .i64 n.f2.f0, .int .i64 n.f2.f1, .int .i64 n.f2.f2, .int .i64 n.f2.f3, .bool n.f3.f0, .int .i64 n.f3.f1, .int .i64 n.f3.f2, .slice A9 n.f3.f3.length c9] 67)) z1
      have u2 := pw_cell_below (below_alloc (Below.refl _ _) (.cells #[.int .i64 n.f0, .bool n.f1, .int .i64 n.f2.f0, .int .i64 n.f2.f1, .int .i64 n.f2.f2, .int .i64 n.f2.f3, .bool n.f3.f0, .int .i64 n.f3.f1, .int .i64 n.f3.f2, .slice A9 n.f3.f3.length c9] 67)) z2
      have u3 := pw_cell_below (below_alloc (Below.refl _ _) (.cells #[.int .i64 n.f0, .bool n.f1, .int .i64 n.f2.f0, .int .i64 n.f2.f1, .int .i64 n.f2.f2, .int .i64 n.f2.f3, .bool n.f3.f0, .int .i64 n.f3.f1, .int .i64 n.f3.f2, .slice A9 n.f3.f3.length c9] 67)) z3
      have u4 := pw_cell_below (below_alloc (Below.refl _ _) (.cells #[.int .i64 n.f0, .bool n.f1, .int .i64 n.f2.f0, .int .i64 n.f2.f1, .int .i64 n.f2.f2, .int .i64 n.f2.f3, .bool n.f3.f0, .int .i64 n.f3.f1, .int .i64 n.f3.f2, .slice A9 n.f3.f3.length c9] 67)) z4
      have u5 := pw_cell_below (below_alloc (Below.refl _ _) (.cells #[.int .i64 n.f0, .bool n.f1, .int .i64 n.f2.f0, .int .i64 n.f2.f1, .int .i64 n.f2.f2, .int .i64 n.f2.f3, .bool n.f3.f0, .int .i64 n.f3.f1, .int .i64 n.f3.f2, .slice A9 n.f3.f3.length c9] 67)) z5
      have u6 := pw_cell_below (below_alloc (Below.refl _ _) (.cells #[.int .i64 n.f0, .bool n.f1, .int .i64 n.f2.f0, .int .i64 n.f2.f1, .int .i64 n.f2.f2, .int .i64 n.f2.f3, .bool n.f3.f0, .int .i64 n.f3.f1, .int .i64 n.f3.f2, .slice A9 n.f3.f3.length c9] 67)) z6
      have u7 := pw_cell_below (below_alloc (Below.refl _ _) (.cells #[.int .i64 n.f0, .bool n.f1, .int .i64 n.f2.f0, .int .i64 n.f2.f1, .int .i64 n.f2.f2, .int .i64 n.f2.f3, .bool n.f3.f0, .int .i64 n.f3.f1, .int .i64 n.f3.f2, .slice A9 n.f3.f3.length c9] 67)) z7
      have u8 := pw_cell_below (below_alloc (Below.refl _ _) (.cells #[.int .i64 n.f0, .bool n.f1, .int .i64 n.f2.f0, .int .i64 n.f2.f1, .int .i64 n.f2.f2, .int .i64 n.f2.f3, .bool n.f3.f0, .int .i64 n.f3.f1, .int .i64 n.f3.f2, .slice A9 n.f3.f3.length c9] 67)) z8
      have u9 := pw_cell_below (below_alloc (Below.refl _ _) (.cells #[.int .i64 n.f0, .bool n.f1, .int .i64 n.f2.f0, .int .i64 n.f2.f1, .int .i64 n.f2.f2, .int .i64 n.f2.f3, .bool n.f3.f0, .int .i64 n.f3.f1, .int .i64 n.f3.f2, .slice A9 n.f3.f3.length c9] 67)) z9
      clear hn hm HG hin
      obtain ⟨b, hb⟩ : ∃ b, evSame n m = b := ⟨_, rfl⟩
      rw [hb] at hg
      have NB := Aside0.mk hb
      clear hb
      cases b with
      | false =>
        rw [Bool.false_and] at hg
        subst hg
        go_wp2_with (go_at_call 61; refine (same1_calls n m A9 B9 c9 d9 _ (Kd.C_alloc (Kd.C_alloc hr9 _) _) (Kd.C_alloc (Kd.C_alloc hs9 _) _) hc9 hd9 HPS.out false NB.out).mono ?_; rintro e w2 ⟨rfl, hb2⟩; have HB2 := Aside0.mk (below_step (below_alloc (below_alloc HB.out _) _) hb2); clear hb2)
        go_ret
        exact ⟨rfl, HB2.out⟩
      | true =>
        rw [Bool.true_and] at hg
        have HG := Aside0.mk hg
        clear hg
        go_wp2_with (go_at_call 61; refine (same1_calls n m A9 B9 c9 d9 _ (Kd.C_alloc (Kd.C_alloc hr9 _) _) (Kd.C_alloc (Kd.C_alloc hs9 _) _) hc9 hd9 HPS.out true NB.out).mono ?_; rintro e w2 ⟨rfl, hb2⟩; have HB2 := Aside0.mk (below_step (below_alloc (below_alloc HB.out _) _) hb2); clear hb2)
        go_roundw
        case rel => exact ⟨j + 1, by go_num, by omega, HG, HB2⟩
        case measure => simp [intOf]; omega
    · go_wp2
      go_ret
      have hg := HG.out
      rw [show xs.length - j = 0 by omega] at hg
      simp only [eqGo] at hg
      subst hg
      exact ⟨rfl, HB.out⟩
theorem keptL_mem (p : Nat → Bool) (l0 : List S67) : ∀ d (j : Nat) (out : List S67), j + d = l0.length → ∀ x ∈ keptL p l0 d j out, x ∈ out ∨ x ∈ l0
  | 0, _, _, _, x, hx => .inl hx
  | d + 1, j, out, hd, x, hx => by
    have hin : J67 l0 (j : Int) ∈ l0 := by
      unfold J67
      rw [Int.toNat_natCast, List.getD_eq_getElem?_getD, List.getElem?_eq_getElem (by omega)]
      exact List.getElem_mem _
    unfold keptL at hx
    split at hx
    · rcases keptL_mem p l0 d (j + 1) _ (by omega) x hx with h | h
      · rcases List.mem_append.1 h with h | h
        · exact .inl h
        · simp at h
          exact .inr (by rw [h]; exact hin)
      · exact .inr h
    · exact keptL_mem p l0 d (j + 1) out (by omega) x hx
def sameGo (l0 l1 : List S67) : Nat → Nat → Bool
  | 0, _ => true
  | d + 1, t => eqB (keptL (ofP l0 (t : Int)) l0 l0.length 0 []) (keptL (ofP l1 (t : Int)) l1 l1.length 0 []) && sameGo l0 l1 d (t + 1)
def event_Same.f (l0 l1 : List S67) : Option (Bool × Int) :=
  (event_Check.f l0).bind fun c0 => if c0 = 0 then ((event_Check.f l1).bind fun c1 => if c1 = 0 then (if (l0.length ≤ 100000 ∧ ∀ e ∈ l0, e.f3.f3.length ≤ 1048576) ∧ l1.length ≤ 100000 ∧ ∀ e ∈ l1, e.f3.f3.length ≤ 1048576 then some (sameGo l0 l1 64 0, 0) else none) else some (false, c1)) else some (false, c0)
set_option maxHeartbeats 8000000 in
set_option maxRecDepth 100000 in
theorem event_Same.calls (A0 : Option Addr) (c0 : Nat) (l0 : List (S67)) (A1 : Option Addr) (c1 : Nat) (l1 : List (S67)) (r1 : Bool) (r2 : Int) (w : World) (hr0 : Kd.C k67 w A0 l0.length l0) (hc0 : l0.length ≤ c0) (hr1 : Kd.C k67 w A1 l1.length l1) (hc1 : l1.length ≤ c1) (h : event_Same.f l0 l1 = some (r1, r2)) :
    Calls Try.prog 36 #[.slice A0 l0.length c0, .slice A1 l1.length c1] w fun e w' => e = .returned (.tuple #[.bool r1, .int .i64 r2]) ∧ Below w.heap.size w w' := by
  have hu67 := Try.underlying67
  unfold event_Same.f at h
  obtain ⟨e0, he0, h⟩ := Option.bind_eq_some_iff.mp h
  by_cases hz0 : e0 = 0
  rotate_left
  · rw [if_neg hz0] at h
    simp only [Option.some.injEq, Prod.mk.injEq] at h
    obtain ⟨rfl, rfl⟩ := h
    have hz' : (e0 != 0) = true := by simpa using hz0
    go_enter Try.func36, Try.ntmps36
    go_wp2_with (go_at_call 30; refine (event_Check.calls A0 c0 l0 e0 _ hr0 hc0 he0).mono ?_; rintro e w2 ⟨rfl, hb2⟩)
    go_ret2
    exact ⟨rfl, hb2⟩
  subst hz0
  rw [if_pos rfl] at h
  obtain ⟨e1, he1, h⟩ := Option.bind_eq_some_iff.mp h
  by_cases hz1 : e1 = 0
  rotate_left
  · rw [if_neg hz1] at h
    simp only [Option.some.injEq, Prod.mk.injEq] at h
    obtain ⟨rfl, rfl⟩ := h
    have hz' : (e1 != 0) = true := by simpa using hz1
    have H0 := Aside0.mk he0
    have H1 := Aside0.mk he1
    clear he0 he1
    go_enter Try.func36, Try.ntmps36
    go_wp2_with (go_at_call 30; first
      | (with_reducible refine (event_Check.calls A0 c0 l0 0 w hr0 hc0 H0.out).mono ?_; rintro e w2 ⟨rfl, hb2⟩; have hr12 := Kd.C_below hr1 hb2)
      | (with_reducible refine (event_Check.calls A1 c1 l1 e1 _ hr12 hc1 H1.out).mono ?_; rintro e w3 ⟨rfl, hb3⟩))
    go_ret2
    exact ⟨rfl, below_step hb2 hb3⟩
  subst hz1
  rw [if_pos rfl] at h
  split at h
  rotate_left
  · simp at h
  rename_i hcond
  obtain ⟨⟨hl0, hp0⟩, hl1, hp1⟩ := hcond
  simp only [Option.some.injEq, Prod.mk.injEq] at h
  obtain ⟨hres, rfl⟩ := h
  have HG0 := Aside0.mk hres
  have HP0 := Aside0.mk hp0
  have HP1 := Aside0.mk hp1
  have hO0 : ∀ t : Int, event_Of.f l0 t = some (keptL (ofP l0 t) l0 l0.length 0 [], 0) := fun t => by unfold event_Of.f; rw [he0]; simp only [Option.bind_some, if_true]; rw [if_pos ⟨hl0, hp0⟩]
  have hO1 : ∀ t : Int, event_Of.f l1 t = some (keptL (ofP l1 t) l1 l1.length 0 [], 0) := fun t => by unfold event_Of.f; rw [he1]; simp only [Option.bind_some, if_true]; rw [if_pos ⟨hl1, hp1⟩]
  have HO0 := Aside0.mk hO0
  have HO1 := Aside0.mk hO1
  have H0 := Aside0.mk he0
  have H1 := Aside0.mk he1
  clear he0 he1 hO0 hO1 hp0 hp1 hres
  go_enter Try.func36, Try.ntmps36
  go_wp2_with (go_at_call 30; first
    | (with_reducible refine (event_Check.calls A0 c0 l0 0 w hr0 hc0 H0.out).mono ?_; rintro e w2 ⟨rfl, hb2⟩; have hr12 := Kd.C_below hr1 hb2)
    | (with_reducible refine (event_Check.calls A1 c1 l1 0 _ hr12 hc1 H1.out).mono ?_; rintro e w3 ⟨rfl, hb3⟩; have HB3 := Aside0.mk (below_step hb2 hb3); clear hr12 hb2 hb3))
  go_loopw [23] (fun v23 W => ∃ (t : Nat), v23 = .int .i64 (t : Int) ∧ t ≤ 64 ∧ Aside0 (sameGo l0 l1 (64 - t) t = r1) ∧ Aside0 (Below w.heap.size w W)) (fun v23 _ => 64 - (intOf v23).toNat)
  case atStart => exact ⟨0, rfl, Nat.zero_le _, HG0, HB3⟩
  case round =>
    obtain ⟨t, rfl, ht, HG, HB⟩ := hrel
    by_cases hlt : t < 64
    · have hg := HG.out
      rw [show 64 - t = (64 - (t + 1)) + 1 by omega] at hg
      simp only [sameGo] at hg
      obtain ⟨xs, hxs⟩ : ∃ xs, xs = keptL (ofP l0 (t : Int)) l0 l0.length 0 [] := ⟨_, rfl⟩
      obtain ⟨ys, hys⟩ : ∃ ys, ys = keptL (ofP l1 (t : Int)) l1 l1.length 0 [] := ⟨_, rfl⟩
      rw [← hxs, ← hys] at hg
      have HX := Aside0.mk (show event_Of.f l0 (t : Int) = some (xs, 0) by rw [hxs]; exact HO0.out (t : Int))
      have HY := Aside0.mk (show event_Of.f l1 (t : Int) = some (ys, 0) by rw [hys]; exact HO1.out (t : Int))
      have HM := Aside0.mk (show ∀ e ∈ xs, e.f3.f3.length ≤ 1048576 from fun e he => by
        rw [hxs] at he
        rcases keptL_mem _ l0 l0.length 0 [] (by omega) e he with h | h
        · simp at h
        · exact HP0.out e h)
      obtain ⟨b, hb⟩ : ∃ b, eqB xs ys = b := ⟨_, rfl⟩
      rw [hb] at hg
      have NB := Aside0.mk hb
      clear hb hxs hys HG
      have hr0' := Kd.C_below hr0 HB.out
      have hr1' := Kd.C_below hr1 HB.out
      cases b with
      | false =>
        rw [Bool.false_and] at hg
        subst hg
        go_wp2_with (first
          | (go_at_call 28; first
            | (with_reducible refine (event_Of.calls A0 c0 l0 (t : Int) xs 0 wr hr0' hc0 HX.out).mono ?_; rintro e w4 ⟨v4, rfl, ho4, hb4⟩; obtain ⟨A4, c4, rfl⟩ := Kd.S_slice ho4; have hr14 := Kd.C_below hr1' hb4)
            | (with_reducible refine (event_Of.calls A1 c1 l1 (t : Int) ys 0 _ hr14 hc1 HY.out).mono ?_; rintro e w5 ⟨v5, rfl, ho5, hb5⟩; obtain ⟨A5, c5, rfl⟩ := Kd.S_slice ho5; have hC4 := Kd.C_below (Kd.S_reads' ho4).2.2 hb5; have hC5 := (Kd.S_reads' ho5).2.2; have HB5 := Aside0.mk (below_step (below_step HB.out hb4) hb5); clear ho4 ho5 hb4 hb5 hr14))
          | (go_at_call 60; refine (equal_calls A4 A5 c4 c5 xs ys _ hC4 hC5 HM.out).mono ?_; rintro e w6 ⟨rfl, hb6⟩; rw [NB.out]; have HB6 := Aside0.mk (below_step HB5.out hb6); clear hb6))
        go_ret2
        exact ⟨rfl, HB6.out⟩
      | true =>
        rw [Bool.true_and] at hg
        have HG := Aside0.mk hg
        clear hg
        go_wp2_with (first
          | (go_at_call 28; first
            | (with_reducible refine (event_Of.calls A0 c0 l0 (t : Int) xs 0 wr hr0' hc0 HX.out).mono ?_; rintro e w4 ⟨v4, rfl, ho4, hb4⟩; obtain ⟨A4, c4, rfl⟩ := Kd.S_slice ho4; have hr14 := Kd.C_below hr1' hb4)
            | (with_reducible refine (event_Of.calls A1 c1 l1 (t : Int) ys 0 _ hr14 hc1 HY.out).mono ?_; rintro e w5 ⟨v5, rfl, ho5, hb5⟩; obtain ⟨A5, c5, rfl⟩ := Kd.S_slice ho5; have hC4 := Kd.C_below (Kd.S_reads' ho4).2.2 hb5; have hC5 := (Kd.S_reads' ho5).2.2; have HB5 := Aside0.mk (below_step (below_step HB.out hb4) hb5); clear ho4 ho5 hb4 hb5 hr14))
          | (go_at_call 60; refine (equal_calls A4 A5 c4 c5 xs ys _ hC4 hC5 HM.out).mono ?_; rintro e w6 ⟨rfl, hb6⟩; rw [NB.out]; have HB6 := Aside0.mk (below_step HB5.out hb6); clear hb6))
        go_roundw
        case rel => exact ⟨t + 1, by go_num, by omega, HG, HB6⟩
        case measure => simp [intOf]; omega
    · go_wp2
      go_ret2
      have hg := HG.out
      rw [show 64 - t = 0 by omega] at hg
      simp only [sameGo] at hg
      subst hg
      exact ⟨rfl, HB.out⟩
end Go.Proofs.Ytagdkmcgepidoaa.P
