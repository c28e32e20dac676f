/- P.modelMemory_holds, part 25 of 37: the contracts of the Go functions that the law calls, its own walk, and its plain law, for every input that the statement speaks of. -/
import Derived.Test.YtanlnfcjdjamaaaMMe23
import Derived.Test.YtanlnfcjdjamaaaMMe5
import Derived.Test.YtanlnfcjdjamaaaMMe2
set_option linter.unusedVariables false
set_option linter.unusedSimpArgs false
/- E17 -/
namespace Go.Proofs.Ytanlnfcjdjamaaa.P
open Go.RowKit Go.Proofs.YtanlnfcjdjamaaaW.PrintWords Go.Proofs.YtanlnfcjdjamaaaW.PrintLast Go.Proofs.YtanlnfcjdjamaaaW.PrintMore
def srtL : List S51 → List S51
  | [] => []
  | x :: r => Sym.mrg ky [x] (srtL r)
theorem srtL_st : ∀ l, Sym.St ky l (srtL l)
  | [] => Sym.St.nil ky
  | x :: r => Sym.St.mrg ky (A := [x]) (Sym.St.one ky x) (srtL_st r)
def lastL : List S51 → List S51
  | [] => []
  | [x] => [x]
  | x :: y :: r => if y.f0 = x.f0 then lastL (y :: r) else x :: lastL (y :: r)
def ofL (l : List S51) : List S51 := lastL (srtL l)
def model_Of.f (l0 : List S51) : Option (List S51) := if l0.length < 100000000 then some (ofL l0) else none
theorem lastL_end {m : List S51} {i : Nat} {x : S51} (hx : m[i]? = some x) (hn : i + 1 = m.length) : lastL (m.drop i) = [x] := by
  obtain ⟨hl, he⟩ := List.getElem?_eq_some_iff.1 hx
  rw [List.drop_eq_getElem_cons hl, he, List.drop_of_length_le (by omega)]
  rfl
theorem lastL_same {m : List S51} {i : Nat} {x y : S51} (hx : m[i]? = some x) (hy : m[i + 1]? = some y) (h : y.f0 = x.f0) : lastL (m.drop i) = lastL (m.drop (i + 1)) := by
  obtain ⟨hl, he⟩ := List.getElem?_eq_some_iff.1 hx
  obtain ⟨hl2, he2⟩ := List.getElem?_eq_some_iff.1 hy
  rw [List.drop_eq_getElem_cons hl, he, List.drop_eq_getElem_cons hl2, he2, lastL, if_pos h]
theorem lastL_new {m : List S51} {i : Nat} {x y : S51} (hx : m[i]? = some x) (hy : m[i + 1]? = some y) (h : ¬ y.f0 = x.f0) : lastL (m.drop i) = x :: lastL (m.drop (i + 1)) := by
  obtain ⟨hl, he⟩ := List.getElem?_eq_some_iff.1 hx
  obtain ⟨hl2, he2⟩ := List.getElem?_eq_some_iff.1 hy
  rw [List.drop_eq_getElem_cons hl, he, List.drop_eq_getElem_cons hl2, he2, lastL, if_neg h]
theorem last_le : ∀ (n : Nat) (l : List S51), l.length ≤ n → (lastL l).length ≤ l.length
  | n, [], _ => by simp [lastL]
  | n, [x], _ => by simp [lastL]
  | n + 1, x :: y :: r, h => by
    rw [lastL]
    have := last_le n (y :: r) (by simp at h ⊢; omega)
    split
    · simp at this ⊢; omega
    · simp at this ⊢; omega
def Win (a b k : Nat) : Prop := a ≤ k ∧ k < b
structure OfI (w W : World) (B n c i : Nat) (A : Option Addr) (m out : List S51) (v : Value) : Prop where
  hm : Kd.R k51 51 W w.heap.size (Win w.heap.size B) (.slice A n c) m
  ho : Kd.R k51 51 W B (fun _ => True) v out
  hb : Below w.heap.size w W
  hB : B ≤ W.heap.size ∧ w.heap.size ≤ B
  he : out ++ lastL (m.drop i) = lastL m
  hl : out.length ≤ i
theorem OfI.step {w W W' : World} {B n c i : Nat} {A : Option Addr} {m out : List S51} {v : Value} (h : OfI w W B n c i A m out v) (hb : Below W.heap.size W W') : OfI w W' B n c i A m out v :=
  ⟨Kd.R_below h.hm hb, Kd.R_below h.ho hb, below_step h.hb hb, ⟨Nat.le_trans h.hB.1 hb.size, h.hB.2⟩, h.he, h.hl⟩
set_option maxHeartbeats 8000000 in
set_option maxRecDepth 100000 in
theorem model_Of.calls (A0 : Option Addr) (c0 : Nat) (l0 : List S51) (r : List S51) (w : World) (hr0 : Kd.C k51 w A0 l0.length l0) (hc0 : l0.length ≤ c0) (h : model_Of.f l0 = some r) :
    Calls Try.prog 20 #[.slice A0 l0.length c0] w fun e w' => ∃ v0_ : Value, e = .returned (v0_) ∧ Kd.R k51 51 w' w.heap.size (fun _ => True) v0_ r ∧ Below w.heap.size w w' := by
  have hu51 := Try.underlying51
  unfold model_Of.f at h
  by_cases hl0 : l0.length < 100000000
  rotate_left
  · rw [if_neg hl0] at h; simp at h
  rw [if_pos hl0] at h
  cases Option.some.inj h
  clear h
  obtain ⟨n, hn⟩ : ∃ n, n = l0.length := ⟨_, rfl⟩
  have hcl := api_Pair_40.calls A0 c0 l0 l0 w hr0 hc0 (by unfold api_Pair_40.f; rw [if_pos (by omega)])
  rw [← hn] at hcl ⊢
  have HCL := Aside0.mk hcl
  have HN := Aside0.mk hn
  have hn9 : n < 100000000 := by omega
  clear hcl hn hl0 hr0 hc0
  go_enter Try.func20, Try.ntmps20
  go_wp2_with (first
    | (go_at_call 40; (with_reducible refine HCL.out.mono ?_); rintro e w1 ⟨v1, rfl, ho1, hb1⟩; obtain ⟨Am, cm, rfl⟩ := Kd.R_slice ho1; rw [← HN.out] at ho1 ⊢; have HO1 : Aside0 (Kd.R k51 51 w1 w.heap.size (Win w.heap.size w1.heap.size) (.slice Am n cm) l0) := ⟨Kd.R_mono (Kd.R_bound ho1) (fun _ hk => ⟨hk.2.1, hk.2.2.1⟩)⟩; have HB1 := Aside0.mk hb1; clear ho1 hb1)
    | (go_at_call 42; (with_reducible refine (sortStable_calls l0 Am n cm w.heap.size _ w1 HO1.out (by omega)).mono ?_); rintro e w2 ⟨rfl, ⟨m, hst, hR2⟩, hC2⟩; have HB2 : Aside0 (Below w.heap.size w w2) := ⟨hC2.to_below HB1.out HB1.out.size (fun k hk => hk.1)⟩; have HR2 := Aside0.mk hR2; have HM := Aside0.mk (Sym.St.uniq ky hst (srtL_st l0)); have HS1 := Aside0.mk (And.intro HB1.out.size hC2.size); clear hst hR2 hC2))
  obtain ⟨B, hB⟩ : ∃ B, B = w2.heap.size := ⟨_, rfl⟩
  have hml : m.length = n := by rw [HM.out, (srtL_st l0).len, HN.out]
  have H2 : Aside0 (OfI w w2 B n cm 0 Am m [] (.slice none 0 0)) := ⟨Kd.R_mono HR2.out (fun k hk => ⟨hk.1, by have := hk.2; have := HS1.out.2; omega⟩), Kd.R_nil _ _ _ _ _, HB2.out, ⟨by omega, by rw [hB]; exact HB2.out.size⟩, by rw [List.nil_append, List.drop_zero], Nat.le_refl _⟩
  have HML := Aside0.mk hml
  clear HR2 HB2 HS1 hB hml HO1 HB1 HCL
  go_loopw [4, 13] (fun v4 v13 W => ∃ (i : Nat) (out : List S51), v13 = .int .i64 (i : Int) ∧ i ≤ n ∧ Aside0 (OfI w W B n cm i Am m out v4)) (fun _ v13 _ => n - (intOf v13).toNat)
  case atStart => exact ⟨0, [], rfl, Nat.zero_le _, H2⟩
  case round =>
    clear H2
    obtain ⟨i, out, rfl, hin, HI⟩ := hrel
    have hml := HML.out
    by_cases hlt : i < n
    · obtain ⟨x, hx⟩ : ∃ x, m[i]? = some x := ⟨_, List.getElem?_eq_getElem (by omega)⟩
      obtain ⟨g, rfl⟩ := R_some HI.out.hm (by omega)
      obtain ⟨x0, x1, -, -⟩ := R_pair_at HI.out.hm i x hx
      have b1 : (0 : Int) ≤ (i : Int) := by omega
      have b2 : (i : Int) < (n : Int) := by omega
      obtain ⟨Wa, hWa⟩ : ∃ Wa, Wa = wr.alloc (.cells #[.int .i64 x.f0, .int .i64 x.f1] 51) := ⟨_, rfl⟩
      have HIa : Aside0 (OfI w Wa B n cm i (some ⟨g, 0, none⟩) m out u4) := ⟨by rw [hWa]; exact HI.out.step (below_alloc (Below.refl _ _) _)⟩
      have HBX : Aside0 (Wa.heap[wr.heap.size]? = some (.cells #[.int .i64 x.f0, .int .i64 x.f1] 51 (0, 0))) := ⟨by rw [hWa]; exact blk_new _ _⟩
      have HX := Aside0.mk hx
      obtain ⟨q, hq⟩ : ∃ q, q = i + 1 := ⟨_, rfl⟩
      have e1 : IntKind.i64.wrap ((i : Int) + 1) = (q : Int) := by rw [show (i : Int) + 1 = (q : Int) by omega]; exact wrapN (by omega)
      have HQ := Aside0.mk hq
      have HWA := Aside0.mk hWa
      have p0 : Wa.cell? ⟨wr.heap.size, 0, none⟩ = some (.int .i64 x.f0) := (blk_cell HBX.out 0).trans rfl
      have p1 : Wa.cell? ⟨wr.heap.size, 1, none⟩ = some (.int .i64 x.f1) := (blk_cell HBX.out 1).trans rfl
      clear hWa hx hml HI
      by_cases hqn : q = n
      · have HE := Aside0.mk (lastL_end HX.out (by rw [← HQ.out, hqn, HML.out]))
        have HQN := Aside0.mk hqn
        subst hqn
        clear hq hin
        go_wp2
        rw [← HWA.out]
        go_region
        (go_wp2_with (first | ((with_reducible refine gate_builtin (b := .append) (xs := #[.tmp 34, .tmp 36]) rfl ?_); at_builtin; rw [← World.alloc_drew]; refine Kd.R_append k51 (w0 := Wa.drew) B rfl (.tmp 34) (.tmp 36) 22 51 (.agg #[(.int .i64 0), (.int .i64 0)]) 16 rfl Try.underlying22 info51 rfl (by decide) (by omega) u4 out x [.int .i64 x.f0, .int .i64 x.f1] (fun _ => True) (fun _ => False) rfl rfl ?aP (fun _ hk => hk.elim) ?aF ?aO ?aB ?aS ?aL ?_; (case aP => exact k51_mkM _ _ _ x); (case aF => exact (fun _ _ => trivial)); (case aO => exact Kd.R_drew HIa.out.ho); (case aB => exact Below.refl _ _); (case aS => exact HIa.out.hB.1); (case aL => have := HIa.out.hl; omega); intro v5 w5 ho hb hg hat; have HO5 := Aside0.mk ho; have HB5 := Aside0.mk hb; have HG5 := Aside0.mk hg; clear ho hb hg hat)))
        go_roundw
        case rel =>
          have hl1 := HIa.out.hl
          have hoe := HIa.out.he
          rw [HE.out] at hoe
          have hq := HQ.out
          have hml := HML.out
          exact ⟨q, out ++ [x], by go_num, Nat.le_refl _, ⟨Kd.R_grown (Kd.R_drew HIa.out.hm) HG5.out (fun k hk he => by have h1 := Kd.R_base HIa.out.ho k he.symm; unfold Win at hk; omega), HO5.out, (below_drew1 HIa.out.hb).trans ⟨HB5.out.os, HB5.out.tape, HB5.out.output, HB5.out.size, fun k hk => HB5.out.block k (by have := HIa.out.hB.2; omega)⟩, ⟨Nat.le_trans HIa.out.hB.1 HB5.out.size, HIa.out.hB.2⟩, by rw [List.drop_of_length_le (by omega)]; simpa [lastL] using hoe, by simp; omega⟩⟩
        case measure => have hq := HQ.out; simp [intOf]; omega
      · have hqlt : q < n := by omega
        obtain ⟨y, hy⟩ : ∃ y, m[q]? = some y := ⟨_, List.getElem?_eq_getElem (by have := HML.out; omega)⟩
        obtain ⟨y0, y1, -, -⟩ := R_pair_at HIa.out.hm q y hy
        have hne : ((q : Int) == (n : Int)) = false := by simp; omega
        have b3 : (0 : Int) ≤ (q : Int) := by omega
        have b4 : (q : Int) < (n : Int) := by omega
        have HY := Aside0.mk (show m[i + 1]? = some y by rw [← HQ.out]; exact hy)
        clear hy hq hin hqn
        by_cases hk : y.f0 = x.f0
        · have HE := Aside0.mk (lastL_same HX.out HY.out hk)
          have hkb : (y.f0 != x.f0) = false := by simp [hk]
          clear hk
          go_wp2
          rw [← HWA.out]
          go_region
          go_wp2
          go_roundw
          case rel => exact ⟨q, out, by go_num, Nat.le_of_lt hqlt, ⟨Kd.R_drew HIa.out.hm, Kd.R_drew HIa.out.ho, below_drew1 HIa.out.hb, HIa.out.hB, by rw [HQ.out, ← HE.out]; exact HIa.out.he, by have := HIa.out.hl; have := HQ.out; omega⟩⟩
          case measure => have hq := HQ.out; simp [intOf]; omega
        · have HE := Aside0.mk (lastL_new HX.out HY.out hk)
          have hkb : (y.f0 != x.f0) = true := by simp [hk]
          go_wp2
          rw [← HWA.out]
          go_region
          (go_wp2_with (first | ((with_reducible refine gate_builtin (b := .append) (xs := #[.tmp 34, .tmp 36]) rfl ?_); at_builtin; rw [← World.alloc_drew]; refine Kd.R_append k51 (w0 := Wa.drew) B rfl (.tmp 34) (.tmp 36) 22 51 (.agg #[(.int .i64 0), (.int .i64 0)]) 16 rfl Try.underlying22 info51 rfl (by decide) (by omega) u4 out x [.int .i64 x.f0, .int .i64 x.f1] (fun _ => True) (fun _ => False) rfl rfl ?aP (fun _ hk => hk.elim) ?aF ?aO ?aB ?aS ?aL ?_; (case aP => exact k51_mkM _ _ _ x); (case aF => exact (fun _ _ => trivial)); (case aO => exact Kd.R_drew HIa.out.ho); (case aB => exact Below.refl _ _); (case aS => exact HIa.out.hB.1); (case aL => have := HIa.out.hl; omega); intro v5 w5 ho hb hg hat; have HO5 := Aside0.mk ho; have HB5 := Aside0.mk hb; have HG5 := Aside0.mk hg; clear ho hb hg hat)))
          go_roundw
          case rel =>
            have hl1 := HIa.out.hl
            have hoe := HIa.out.he
            rw [HE.out] at hoe
            have hq := HQ.out
            exact ⟨q, out ++ [x], by go_num, Nat.le_of_lt hqlt, ⟨Kd.R_grown (Kd.R_drew HIa.out.hm) HG5.out (fun k hk he => by have h1 := Kd.R_base HIa.out.ho k he.symm; unfold Win at hk; omega), HO5.out, (below_drew1 HIa.out.hb).trans ⟨HB5.out.os, HB5.out.tape, HB5.out.output, HB5.out.size, fun k hk => HB5.out.block k (by have := HIa.out.hB.2; omega)⟩, ⟨Nat.le_trans HIa.out.hB.1 HB5.out.size, HIa.out.hB.2⟩, by rw [hq]; simpa using hoe, by simp; omega⟩⟩
          case measure => have hq := HQ.out; simp [intOf]; omega
    · obtain rfl : i = n := by omega
      have HFIN : Aside0 (out = ofL l0) := ⟨by
        have := HI.out.he
        rw [List.drop_of_length_le (by omega)] at this
        unfold ofL
        rw [← HM.out, ← this]
        simp [lastL]⟩
      clear hml hlt
      go_wp2
      go_ret
      exact ⟨_, rfl, by rw [← HFIN.out]; exact Kd.R_lower HI.out.ho HI.out.hB.2, HI.out.hb⟩
end Go.Proofs.Ytanlnfcjdjamaaa.P
