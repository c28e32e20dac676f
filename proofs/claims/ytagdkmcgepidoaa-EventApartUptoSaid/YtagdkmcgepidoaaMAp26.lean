/- P.eventApart_holds, part 27 of 41: the contracts of the Go functions that the law calls, its own walk, and its plain law, for every input that the statement speaks of. -/
import Derived.Test.YtagdkmcgepidoaaMAp25
import Derived.Test.YtagdkmcgepidoaaMAp18
import Derived.Test.YtagdkmcgepidoaaMAp2
import Derived.Test.YtagdkmcgepidoaaMAp4
set_option linter.unusedVariables false
set_option linter.unusedSimpArgs false
/- E12 -/
namespace Go.Proofs.Ytagdkmcgepidoaa.P
open Go.RowKit Go.Proofs.YtagdkmcgepidoaaW.PrintWords Go.Proofs.YtagdkmcgepidoaaW.PrintLast Go.Proofs.YtagdkmcgepidoaaW.PrintMore
attribute [local go_sem high] eqA33
def callSame (a b : S38) : Bool := a.f0 == b.f0 && (opSame a.f1 b.f1 && (a.f3 == b.f3 && (a.f4 == b.f4 && sameRetB a.f2 b.f2)))
set_option maxHeartbeats 8000000 in
set_option maxRecDepth 100000 in
theorem sameCall_calls (a b : S38) (A B : Option Addr) (ca cb : Nat) (w : World) (hA : Kd.C k70 w A a.f2.f3.length a.f2.f3) (hB : Kd.C k70 w B b.f2.f3.length b.f2.f3) (hca : a.f2.f3.length ≤ ca) (hcb : b.f2.f3.length ≤ cb) (ha : a.f2.f3.length ≤ 1048576) (r : Bool) (h : callSame a b = r) :
    Calls Try.prog 69 #[.agg #[.int .i64 a.f0, .int .i64 a.f1.f0, .int .i64 a.f1.f1, .int .i64 a.f1.f2, .int .i64 a.f1.f3, .bool a.f2.f0, .int .i64 a.f2.f1, .int .i64 a.f2.f2, .slice A a.f2.f3.length ca, .int .i64 a.f3, .int .i64 a.f4], .agg #[.int .i64 b.f0, .int .i64 b.f1.f0, .int .i64 b.f1.f1, .int .i64 b.f1.f2, .int .i64 b.f1.f3, .bool b.f2.f0, .int .i64 b.f2.f1, .int .i64 b.f2.f2, .slice B b.f2.f3.length cb, .int .i64 b.f3, .int .i64 b.f4]] w fun e w' => e = .returned (.bool r) ∧ Below w.heap.size w w' := by
  have hu38 := Try.underlying38
  have hu36 := Try.underlying36
  have hu33 := Try.underlying33
  unfold callSame at h
  by_cases h1 : a.f0 = b.f0
  rotate_left
  · have h1' : (a.f0 == b.f0) = false := by simpa using h1
    rw [h1', Bool.false_and] at h
    subst h
    go_enter Try.func69, Try.ntmps69
    go_wp2
    go_ret
    exact ⟨rfl, below_alloc (below_alloc (Below.refl _ _) _) _⟩
  have h1' : (a.f0 == b.f0) = true := by simpa using h1
  rw [h1', Bool.true_and] at h
  by_cases h2 : opSame a.f1 b.f1 = true
  rotate_left
  · have h2' : opSame a.f1 b.f1 = false := by simpa using h2
    rw [h2', Bool.false_and] at h
    subst h
    unfold opSame at h2'
    clear h2
    go_enter Try.func69, Try.ntmps69
    go_wp2
    go_ret
    exact ⟨rfl, below_alloc (below_alloc (Below.refl _ _) _) _⟩
  rw [h2, Bool.true_and] at h
  unfold opSame at h2
  by_cases h3 : a.f3 = b.f3
  rotate_left
  · have h3' : (a.f3 == b.f3) = false := by simpa using h3
    rw [h3', Bool.false_and] at h
    subst h
    go_enter Try.func69, Try.ntmps69
    go_wp2
    go_ret
    exact ⟨rfl, below_alloc (below_alloc (Below.refl _ _) _) _⟩
  have h3' : (a.f3 == b.f3) = true := by simpa using h3
  rw [h3', Bool.true_and] at h
  by_cases h4 : a.f4 = b.f4
  rotate_left
  · have h4' : (a.f4 == b.f4) = false := by simpa using h4
    rw [h4', Bool.false_and] at h
    subst h
    go_enter Try.func69, Try.ntmps69
    go_wp2
    go_ret
    exact ⟨rfl, below_alloc (below_alloc (Below.refl _ _) _) _⟩
  have h4' : (a.f4 == b.f4) = true := by simpa using h4
  rw [h4', Bool.true_and] at h
  have H := Aside0.mk (show event_sameRet.f 1048577 a.f2.f0 a.f2.f1 a.f2.f2 a.f2.f3 b.f2.f0 b.f2.f1 b.f2.f2 b.f2.f3 = some r by rw [sameRet_is a.f2 b.f2 ha, ← h])
  clear h
  go_enter Try.func69, Try.ntmps69
  go_wp2_with (go_at_call 62; refine (event_sameRet.calls 1048577 a.f2.f0 a.f2.f1 a.f2.f2 A ca a.f2.f3 b.f2.f0 b.f2.f1 b.f2.f2 B cb b.f2.f3 r _ (Kd.C_alloc (Kd.C_alloc hA _) _) hca (Kd.C_alloc (Kd.C_alloc hB _) _) hcb H.out).mono ?_; rintro e w2 ⟨rfl, hb2⟩; have HB2 := Aside0.mk (below_step (below_alloc (below_alloc (Below.refl _ _) _) _) hb2); clear hb2)
  go_ret
  exact ⟨rfl, HB2.out⟩
def eqcGo (xs ys : List S38) : Nat → Nat → Bool
  | 0, _ => true
  | d + 1, j => callSame (J38 xs (j : Int)) (J38 ys (j : Int)) && eqcGo xs ys d (j + 1)
def eqcB (xs ys : List S38) : Bool := decide (xs.length = ys.length) && eqcGo xs ys xs.length 0
set_option maxHeartbeats 8000000 in
set_option maxRecDepth 100000 in
theorem equalc_calls (A B : Option Addr) (ca cb : Nat) (xs ys : List S38) (w : World) (hA : Kd.C k38 w A xs.length xs) (hB : Kd.C k38 w B ys.length ys) (hps : ∀ e ∈ xs, e.f2.f3.length ≤ 1048576) :
    Calls Try.prog 68 #[.slice A xs.length ca, .slice B ys.length cb, .func (.func 69) #[] #[]] w fun e w' => e = .returned (.bool (eqcB xs ys)) ∧ Below w.heap.size w w' := by
  have hu38 := Try.underlying38
  have hmx : xs.length ≤ 9223372036854775807 := hA.2.1
  unfold eqcB
  by_cases hl : xs.length = ys.length
  rotate_left
  · rw [decide_eq_false hl, Bool.false_and]
    have hl' : ((xs.length : Int) != (ys.length : Int)) = true := by simp; omega
    go_enter Try.func68, Try.ntmps68
    go_wp2
    go_ret
    exact ⟨rfl, Below.refl _ _⟩
  rw [decide_eq_true hl, Bool.true_and]
  have hl' : ((xs.length : Int) != (ys.length : Int)) = false := by simp; omega
  obtain ⟨r, hr⟩ : ∃ r, eqcGo xs ys xs.length 0 = r := ⟨_, rfl⟩
  rw [hr]
  have HR := Aside0.mk hr
  have HL := Aside0.mk hl
  clear hr hl
  go_enter Try.func68, Try.ntmps68
  go_wp2
  go_loopw [17] (fun v17 W => ∃ (j : Nat), v17 = .int .i64 (j : Int) ∧ j ≤ xs.length ∧ Aside0 (eqcGo xs ys (xs.length - j) j = r) ∧ Aside0 (Below w.heap.size w W)) (fun v17 _ => xs.length - (intOf v17).toNat)
  case atStart => exact ⟨0, rfl, Nat.zero_le _, HR, ⟨Below.refl _ _⟩⟩
  case round =>
    obtain ⟨j, rfl, hj, HG, HB⟩ := hrel
    by_cases hlt : j < xs.length
    · have hg := HG.out
      rw [show xs.length - j = (xs.length - (j + 1)) + 1 by omega] at hg
      simp only [eqcGo] at hg
      have hlty : j < ys.length := by have := HL.out; omega
      obtain ⟨n, hn⟩ : ∃ n, n = J38 xs (j : Int) := ⟨_, rfl⟩
      obtain ⟨m, hm⟩ : ∃ m, m = J38 ys (j : Int) := ⟨_, rfl⟩
      rw [← hn, ← hm] at hg
      have hin : n ∈ xs := by
        rw [hn]
        unfold J38
        rw [Int.toNat_natCast, List.getD_eq_getElem?_getD, List.getElem?_eq_getElem (by omega)]
        exact List.getElem_mem _
      have HPS := Aside0.mk (hps n hin)
      obtain ⟨ad2, A9, c9, ea, y0, y1, y2, y3, y4, y5, y6, y7, y8, y9, y10, hc9, hr9⟩ := at_T38 (Kd.C_below hA HB.out) (j : Int) (by omega) (by omega)
      cases ea
      obtain ⟨ad3, B9, d9, ea, z0, z1, z2, z3, z4, z5, z6, z7, z8, z9, z10, hd9, hs9⟩ := at_T38 (Kd.C_below hB HB.out) (j : Int) (by omega) (by omega)
      cases ea
      rw [← hn] at y0 y1 y2 y3 y4 y5 y6 y7 y8 y9 y10 hc9 hr9
      rw [← hm] at z0 z1 z2 z3 z4 z5 z6 z7 z8 z9 z10 hd9 hs9
      simp only [Int.toNat_natCast] at y0 y1 y2 y3 y4 y5 y6 y7 y8 y9 y10 z0 z1 z2 z3 z4 z5 z6 z7 z8 z9 z10
      have u0 := pw_cell_below (below_alloc (Below.refl _ _) (.cells #[.int .i64 n.f0, .int .i64 n.f1.f0, .int .i64 n.f1.f1, .int .i64 n.f1.f2, .int .i64 n.f1.f3, .bool n.f2.f0, .int .i64 n.f2.f1, .int .i64 n.f2.f2, .slice A9 n.f2.f3.length c9, .int .i64 n.f3, .int .i64 n.f4] 38)) z0
      have u1 := pw_cell_below (below_alloc (Below.refl _ _) (.cells #[.int .i64 n.f0, .int .i64 n.f1.f0, .int .i64 n.f1.f1, .int .i64 n.f1.f2, .int .i64 n.f1.f3, .bool n.f2.f0, .int .i64 n.f2.f1, .int .i64 n.f2.f2, .slice A9 n.f2.f3.length c9, .int .i64 n.f3, .int .i64 n.f4] 38)) z1
      have u2 := pw_cell_below (below_alloc (Below.refl _ _) (.cells #[.int .i64 n.f0, .int .i64 n.f1.f0, .int .i64 n.f1.f1, .int .i64 n.f1.f2, .int .i64 n.f1.f3, .bool n.f2.f0, .int .i64 n.f2.f1, .int .i64 n.f2.f2, .slice A9 n.f2.f3.length c9, .int .i64 n.f3, .int .i64 n.f4] 38)) z2
      have u3 := pw_cell_below (below_alloc (Below.refl _ _) (.cells #[.int .i64 n.f0, .int .i64 n.f1.f0, .int .i64 n.f1.f1, .int .i64 n.f1.f2, .int .i64 n.f1.f3, .bool n.f2.f0, .int .i64 n.f2.f1, .int .i64 n.f2.f2, .slice A9 n.f2.f3.length c9, .int .i64 n.f3, .int .i64 n.f4] 38)) z3
      have u4 := pw_cell_below (below_alloc (Below.refl _ _) (.cells #[.int .i64 n.f0, .int .i64 n.f1.f0, .int .i64 n.f1.f1, .int .i64 n.f1.f2, .int .i64 n.f1.f3, .bool n.f2.f0, .int .i64 n.f2.f1, .int .i64 n.f2.f2, .slice A9 n.f2.f3.length c9, .int .i64 n.f3, .int .i64 n.f4] 38)) z4
      have u5 := pw_cell_below (below_alloc (Below.refl _ _) (.cells #[.int .i64 n.f0, .int .i64 n.f1.f0, .int .i64 n.f1.f1, .int .i64 n.f1.f2, .int .i64 n.f1.f3, .bool n.f2.f0, .int .i64 n.f2.f1, .int .i64 n.f2.f2, .slice A9 n.f2.f3.length c9, .int .i64 n.f3, .int .i64 n.f4] 38)) z5
      have u6 := pw_cell_below (below_alloc (Below.refl _ _) (.cells #[.int .i64 n.f0, .int .i64 n.f1.f0, .int .i64 n.f1.f1, .int .i64 n.f1.f2, .int .i64 n.f1.f3, .bool n.f2.f0, .int .i64 n.f2.f1, .int .i64 n.f2.f2, .slice A9 n.f2.f3.length c9, .int .i64 n.f3, .int .i64 n.f4] 38)) z6
      have u7 := pw_cell_below (below_alloc (Below.refl _ _) (.cells #[.int .i64 n.f0, .int .i64 n.f1.f0, .int .i64 n.f1.f1, .int .i64 n.f1.f2, .int .i64 n.f1.f3, .bool n.f2.f0, .int .i64 n.f2.f1, .int .i64 n.f2.f2, .slice A9 n.f2.f3.length c9, .int .i64 n.f3, .int .i64 n.f4] 38)) z7
      have u8 := pw_cell_below (below_alloc (Below.refl _ _) (.cells #[.int .i64 n.f0, .int .i64 n.f1.f0, .int .i64 n.f1.f1, .int .i64 n.f1.f2, .int .i64 n.f1.f3, .bool n.f2.f0, .int .i64 n.f2.f1, .int .i64 n.f2.f2, .slice A9 n.f2.f3.length c9, .int .i64 n.f3, .int .i64 n.f4] 38)) z8
      have u9 := pw_cell_below (below_alloc (Below.refl _ _) (.cells #[.int .i64 n.f0, .int .i64 n.f1.f0, .int .i64 n.f1.f1, .int .i64 n.f1.f2, .int .i64 n.f1.f3, .bool n.f2.f0, .int .i64 n.f2.f1, .int .i64 n.f2.f2, .slice A9 n.f2.f3.length c9, .int .i64 n.f3, .int .i64 n.f4] 38)) z9
      have u10 := pw_cell_below (below_alloc (Below.refl _ _) (.cells #[.int .i64 n.f0, .int .i64 n.f1.f0, .int .i64 n.f1.f1, .int .i64 n.f1.f2, .int .i64 n.f1.f3, .bool n.f2.f0, .int .i64 n.f2.f1, .int .i64 n.f2.f2, .slice A9 n.f2.f3.length c9, .int .i64 n.f3, .int .i64 n.f4] 38)) z10
      clear hn hm HG hin
      obtain ⟨b, hb⟩ : ∃ b, callSame n m = b := ⟨_, rfl⟩
      rw [hb] at hg
      have NB := Aside0.mk hb
      clear hb
      cases b with
      | false =>
        rw [Bool.false_and] at hg
        subst hg
        go_wp2_with (go_at_call 69; refine (sameCall_calls n m A9 B9 c9 d9 _ (Kd.C_alloc (Kd.C_alloc hr9 _) _) (Kd.C_alloc (Kd.C_alloc hs9 _) _) hc9 hd9 HPS.out false NB.out).mono ?_; rintro e w2 ⟨rfl, hb2⟩; have HB2 := Aside0.mk (below_step (below_alloc (below_alloc HB.out _) _) hb2); clear hb2)
        go_ret
        exact ⟨rfl, HB2.out⟩
      | true =>
        rw [Bool.true_and] at hg
        have HG := Aside0.mk hg
        clear hg
        go_wp2_with (go_at_call 69; refine (sameCall_calls n m A9 B9 c9 d9 _ (Kd.C_alloc (Kd.C_alloc hr9 _) _) (Kd.C_alloc (Kd.C_alloc hs9 _) _) hc9 hd9 HPS.out true NB.out).mono ?_; rintro e w2 ⟨rfl, hb2⟩; have HB2 := Aside0.mk (below_step (below_alloc (below_alloc HB.out _) _) hb2); clear hb2)
        go_roundw
        case rel => exact ⟨j + 1, by go_num, by omega, HG, HB2⟩
        case measure => simp [intOf]; omega
    · go_wp2
      go_ret
      have hg := HG.out
      rw [show xs.length - j = 0 by omega] at hg
      simp only [eqcGo] at hg
      subst hg
      exact ⟨rfl, HB.out⟩
end Go.Proofs.Ytagdkmcgepidoaa.P
