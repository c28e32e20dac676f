/- P.modelDoes_holds, part 22 of 27: the contracts of the Go functions that the law calls, its own walk, and its plain law, for every input that the statement speaks of. -/
import Derived.Test.YtanlnfcjdjamaaaMDo9
import Derived.Test.YtanlnfcjdjamaaaMDo16
import Derived.Test.YtanlnfcjdjamaaaMDo18
import Derived.Test.YtanlnfcjdjamaaaMDo2
import Derived.Test.YtanlnfcjdjamaaaMDo20
set_option linter.unusedVariables false
set_option linter.unusedSimpArgs false
/- P1 -/
namespace Go.Proofs.Ytanlnfcjdjamaaa.P
open Go.RowKit Go.Proofs.YtanlnfcjdjamaaaW.PrintWords Go.Proofs.YtanlnfcjdjamaaaW.PrintLast Go.Proofs.YtanlnfcjdjamaaaW.PrintMore
theorem rcheck_go (l : List S51) (hl : l.length < 1000000000) : ∀ d (j : Nat), j + 1 + d = l.length ∨ (d = 0 ∧ l.length ≤ j + 1) → Ev (fun k => larchref06_Check.l0 k l ((j + 1 : Nat) : Int)) (if chkUp (l.drop j) then 0 else 11)
  | 0, j, hd => by
    refine Ev.succ ((Ev.const 0).congr' (by rw [chk_end l j (by omega)]; rfl) fun k => ?_)
    simp only [larchref06_Check.l0]
    rw [if_neg (by omega)]
  | d + 1, j, hd => by
    have e1 : wrap64 (((j + 1 : Nat) : Int) - 1) = (j : Int) := by unfold wrap64; omega
    have e2 : wrap64 (((j + 1 : Nat) : Int) + 1) = ((j + 1 + 1 : Nat) : Int) := by unfold wrap64; omega
    rw [chk_drop l j (by omega)]
    by_cases hc : (J51 l ((j + 1 : Nat) : Int)).f0 ≤ (J51 l (j : Int)).f0
    · refine Ev.succ ((Ev.const 11).congr' (by rw [decide_eq_false (by omega)]; rfl) fun k => ?_)
      simp only [larchref06_Check.l0]
      rw [if_pos (by omega), if_pos (by omega), e1, if_pos (by omega), if_pos (by omega), if_pos hc]
    · refine Ev.succ ((rcheck_go l hl d (j + 1) (by omega)).congr' (by rw [decide_eq_true (by omega), Bool.true_and]) fun k => ?_)
      simp only [larchref06_Check.l0]
      rw [if_pos (by omega), if_pos (by omega), e1, if_pos (by omega), if_pos (by omega), if_neg hc, e2]
theorem rcheck_ev (l : List S51) (hl : l.length < 1000000000) : Ev (fun k => larchref06_Check.f k l) (if chkUp l then 0 else 11) := by
  have := rcheck_go l hl (l.length - 1) 0 (by omega)
  rw [List.drop_zero] at this
  exact this
theorem rkind_val (o : S25) : larchref06_Kind.f o.f0 = some (if okK o then 0 else 5) := by
  unfold larchref06_Kind.f okK
  by_cases h1 : o.f0 < 1
  · rw [if_pos h1, decide_eq_false (by omega)]; rfl
  · rw [if_neg h1]
    by_cases h2 : o.f0 > 9
    · rw [if_pos h2, decide_eq_false (by omega)]; rfl
    · rw [if_neg h2, decide_eq_true (by omega)]; rfl
theorem rstep_val (l : List S51) (h : Up l) (hl : l.length < 1000000000) (o : S25) (ho : okK o = true) : larchref06_Step.f l o.f0 o.f1 o.f2 o.f3 = some ((doL l o).1, (doL l o).2.f0, (doL l o).2.f1, (doL l o).2.f2, (doL l o).2.f3) := by
  have ho := of_decide_eq_true ho
  unfold larchref06_Step.f
  rw [if_pos ⟨hl, ho⟩, (do_step l h o ho.1 ho.2).1]
theorem drop25 (l : List S25) (j : Nat) (h : j < l.length) : l.drop j = J25 l (j : Int) :: l.drop (j + 1) := by rw [List.drop_eq_getElem_cons h, ← rd25_get l j h]
theorem rrun1_go (ops : List S25) (hn : ops.length < 100000000) : ∀ d (j : Nat) (m : List S51) (out : List S27), j + d = ops.length → (ops.drop j).all okK = true → Up m → m.length + d < 1000000000 → out.length ≤ j →
    Ev (fun k => larchref06_Run.l1 k ops out m (j : Int)) ((runL m (ops.drop j)).1, out ++ (runL m (ops.drop j)).2, 0)
  | 0, j, m, out, hd, ha, hu, hm, ho => by
    refine Ev.succ ((Ev.const (m, out, 0)).congr' (by rw [List.drop_eq_nil_of_le (by omega)]; simp [runL]) fun k => ?_)
    simp only [larchref06_Run.l1]
    rw [if_neg (by omega)]
  | d + 1, j, m, out, hd, ha, hu, hm, ho => by
    have hdr := drop25 ops j (by omega)
    rw [hdr] at ha ⊢
    rw [List.all_cons, Bool.and_eq_true] at ha
    have hds := do_step m hu (J25 ops j) (of_decide_eq_true ha.1).1 (of_decide_eq_true ha.1).2
    have hlen := do_len m (J25 ops j)
    refine Ev.succ ((rrun1_go ops hn d (j + 1) (doL m (J25 ops j)).1 (out ++ [(doL m (J25 ops j)).2]) (by omega) ha.2 hds.2 (by omega) (by simp; omega)).congr' (by simp [runL]) fun k => ?_)
    simp only [larchref06_Run.l1]
    rw [if_pos (by omega), if_pos (by omega), rstep_val m hu (by omega) _ ha.1, Option.bind_some, if_pos (by omega), wrap_succ (by omega)]
theorem rrun0_go (m : List S51) (ops : List S25) (hm : m.length < 100000000) (hn : ops.length < 100000000) (hu : Up m) : ∀ d (j : Nat), j + d = ops.length → (ops.take j).all okK = true →
    Ev (fun k => larchref06_Run.l0 k m ops (j : Int)) (if ops.all okK then ((runL m ops).1, (runL m ops).2, 0) else ([], [], 5))
  | 0, j, hd, ha => by
    rw [List.take_of_length_le (by omega)] at ha
    have h1 := rrun1_go ops hn ops.length 0 m [] (by omega) (by rw [List.drop_zero]; exact ha) hu (by omega) (by simp)
    refine Ev.succ (h1.congr' (by rw [List.drop_zero, ha]; rfl) fun k => ?_)
    simp only [larchref06_Run.l0]
    rw [if_neg (by omega), Option.bind_some, if_pos (by simp; omega), List.nil_append]
    rfl
  | d + 1, j, hd, ha => by
    have hlt : j < ops.length := by omega
    by_cases hk : okK (J25 ops (j : Int)) = true
    · refine Ev.succ ((rrun0_go m ops hm hn hu d (j + 1) (by omega) (by rw [take_snoc25 ops j hlt, List.all_append, ha]; simp [hk])).congr fun k => ?_)
      simp only [larchref06_Run.l0]
      rw [if_pos (by omega), if_pos (by omega), rkind_val, Option.bind_some, if_pos (by rw [hk]; rfl), wrap_succ (by omega)]
    · have hk : okK (J25 ops (j : Int)) = false := by simpa using hk
      have hall : ops.all okK = false := by
        rw [← List.take_append_drop j ops, drop25 ops j hlt]
        simp [hk]
      refine Ev.succ ((Ev.const ([], [], 5)).congr' (by rw [hall]; rfl) fun k => ?_)
      simp only [larchref06_Run.l0]
      rw [if_pos (by omega), if_pos (by omega), rkind_val, Option.bind_some, if_neg (by rw [hk]; decide)]
theorem rcheck_up (m : List S51) (hm : m.length < 100000000) (hc : chkUp m = true) : Ev (fun k => larchref06_Check.f k m) 0 := by
  have h := rcheck_ev m (by omega)
  rwa [if_pos hc] at h
theorem rcheck_no (m : List S51) (hm : m.length < 100000000) (hc : chkUp m = false) : Ev (fun k => larchref06_Check.f k m) 11 := by
  have h := rcheck_ev m (by omega)
  rwa [hc, if_neg (by simp)] at h
theorem runF_no {m : List S51} (ops : List S25) (hc : chkUp m = false) : runF m ops = ([], [], 11) := by unfold runF; rw [if_pos hc]
theorem runF_up {m : List S51} (ops : List S25) (hc : chkUp m = true) : runF m ops = if ops.all okK then ((runL m ops).1, (runL m ops).2, 0) else ([], [], 5) := by
  unfold runF
  rw [if_neg (by simp [hc])]
  cases ops.all okK <;> rfl
theorem rrun_ev (m : List S51) (ops : List S25) (hm : m.length < 100000000) (hn : ops.length < 100000000) : Ev (fun k => larchref06_Run.f k m ops) (runF m ops) := by
  unfold larchref06_Run.f
  by_cases hc : chkUp m = true
  · refine Ev.bind (rcheck_up m hm hc) ?_
    rw [runF_up ops hc]
    exact (rrun0_go m ops hm hn ((chk_up m).1 hc) ops.length 0 (by omega) (by simp)).congr fun k => if_pos rfl
  · have hc : chkUp m = false := by simpa using hc
    refine Ev.bind (rcheck_no m hm hc) ?_
    rw [runF_no ops hc]
    exact (Ev.const _).congr fun k => if_neg (by decide)
theorem rdo_ev (m : List S51) (a b c d : Int) (hm : m.length < 100000000) : Ev (fun k => larchref06_Do.f k m a b c d) (doOf (runF m [⟨a, b, c, d⟩])) := by
  unfold larchref06_Do.f
  by_cases hc : chkUp m = true
  · refine Ev.bind (rcheck_up m hm hc) ?_
    rw [runF_up _ hc]
    have hkv : larchref06_Kind.f a = _ := rkind_val ⟨a, b, c, d⟩
    refine (Ev.const _).congr fun k => ?_
    rw [if_pos rfl, hkv]
    by_cases hk : okK ⟨a, b, c, d⟩ = true
    · have hst : larchref06_Step.f m a b c d = _ := rstep_val m ((chk_up m).1 hc) (by omega) ⟨a, b, c, d⟩ hk
      rw [if_pos (show List.all [⟨a, b, c, d⟩] okK = true by simp [hk]), if_pos hk, Option.bind_some, if_pos rfl, hst]
      rfl
    · rw [if_neg (show ¬ List.all [⟨a, b, c, d⟩] okK = true by simpa using hk), if_neg hk, Option.bind_some, if_neg (by decide)]
      rfl
  · have hc : chkUp m = false := by simpa using hc
    refine Ev.bind (rcheck_no m hm hc) ?_
    rw [runF_no _ hc]
    refine (Ev.const _).congr fun k => ?_
    rw [if_neg (by decide)]
    rfl
instance : DecidableEq S51 := fun x y => decidable_of_iff (x.f0 = y.f0 ∧ x.f1 = y.f1) (by cases x; cases y; simp)
theorem pair_eq (x y : S51) : ((!(x.f0 == y.f0)) || (!(x.f1 == y.f1))) = !decide (x = y) := by
  rw [show decide (x = y) = decide (x.f0 = y.f0 ∧ x.f1 = y.f1) from decide_eq_decide.2 (by cases x; cases y; simp)]
  by_cases h1 : x.f0 = y.f0 <;> by_cases h2 : x.f1 = y.f1 <;> simp [h1, h2]
theorem rsame_go (a b : List S51) (hl : a.length < 1000000000) (he : a.length = b.length) : ∀ d (j : Nat), j + d = a.length → Ev (fun k => larchref06_Same.l0 k a b (j : Int)) (decide (a.drop j = b.drop j))
  | 0, j, hd => by
    refine Ev.succ ((Ev.const true).congr' (by rw [List.drop_eq_nil_of_le (by omega), List.drop_eq_nil_of_le (by omega)]; simp) fun k => ?_)
    simp only [larchref06_Same.l0]
    rw [if_neg (by omega)]
  | d + 1, j, hd => by
    rw [drop51 a j (by omega), drop51 b j (by omega)]
    by_cases h : J51 a (j : Int) = J51 b (j : Int)
    · refine Ev.succ ((rsame_go a b hl he d (j + 1) (by omega)).congr' (by simp [h]) fun k => ?_)
      simp only [larchref06_Same.l0, pair_eq]
      rw [if_pos (by omega), if_pos (by omega), if_pos (by omega), if_neg (by simp [h]), wrap_succ (by omega)]
    · refine Ev.succ ((Ev.const false).congr' (by simp [h]) fun k => ?_)
      simp only [larchref06_Same.l0, pair_eq]
      rw [if_pos (by omega), if_pos (by omega), if_pos (by omega), if_pos (by simp [h])]
theorem rsame_ev (a b : List S51) (hl : a.length < 1000000000) : Ev (fun k => larchref06_Same.f k a b) (decide (a = b)) := by
  unfold larchref06_Same.f
  by_cases he : a.length = b.length
  · refine (rsame_go a b hl he a.length 0 (by omega)).congr fun k => ?_
    rw [if_pos (by omega)]
    rfl
  · refine (Ev.const false).congr' (decide_eq_false (fun h => he (by rw [h]))) fun k => ?_
    rw [if_neg (by omega)]
theorem msame_go (a b : List S51) (hl : a.length < 1000000000) (he : a.length = b.length) : ∀ d (j : Nat), j + d = a.length → Ev (fun k => api_Pair_49.l0 k a b (a.length : Int) (j : Int)) (decide (a.drop j = b.drop j))
  | 0, j, hd => by
    refine Ev.succ ((Ev.const true).congr' (by rw [List.drop_eq_nil_of_le (by omega), List.drop_eq_nil_of_le (by omega)]; simp) fun k => ?_)
    simp only [api_Pair_49.l0]
    rw [if_neg (by omega)]
  | d + 1, j, hd => by
    rw [drop51 a j (by omega), drop51 b j (by omega)]
    by_cases h : J51 a (j : Int) = J51 b (j : Int)
    · refine Ev.succ ((msame_go a b hl he d (j + 1) (by omega)).congr' (by simp [h]) fun k => ?_)
      simp only [api_Pair_49.l0, pair_eq]
      rw [if_pos (by omega), if_pos (by omega), if_pos (by omega), if_pos (by omega), if_neg (by simp [h]), wrap_succ (by omega)]
    · refine Ev.succ ((Ev.const false).congr' (by simp [h]) fun k => ?_)
      simp only [api_Pair_49.l0, pair_eq]
      rw [if_pos (by omega), if_pos (by omega), if_pos (by omega), if_pos (by omega), if_pos (by simp [h])]
theorem msame_ev (a b : List S51) (hl : a.length < 1000000000) : Ev (fun k => model_Same.f k a b) (decide (a = b)) := by
  unfold model_Same.f api_Pair_49.f
  refine Ev.bind (x := decide (a = b)) ?_ (Ev.const _)
  by_cases he : a.length = b.length
  · refine (msame_go a b hl he a.length 0 (by omega)).congr fun k => ?_
    rw [if_pos (by omega)]
    rfl
  · refine (Ev.const false).congr' (decide_eq_false (fun h => he (by rw [h]))) fun k => ?_
    rw [if_neg (by omega)]
def sameR (b : Bool) (x y : Int) (l : List S51) (b' : Bool) (x' y' : Int) (l' : List S51) : Bool := decide (b = b' ∧ x = x' ∧ y = y' ∧ l = l')
theorem same_ret {f : Nat → Option Bool} {b : Bool} {x y : Int} {l : List S51} {b' : Bool} {x' y' : Int} {l' : List S51} (h : Ev f (decide (l = l'))) :
    Ev (fun k => if (b == b') = true then (if x = x' then (if y = y' then ((f k).bind fun t => (some t)) else (some false)) else (some false)) else (some false)) (sameR b x y l b' x' y' l') := by
  unfold sameR
  by_cases h1 : b = b'
  · by_cases h2 : x = x'
    · by_cases h3 : y = y'
      · refine (Ev.bind h (Ev.const _)).congr' (by simp [h1, h2, h3]) fun k => ?_
        rw [if_pos (by simp [h1]), if_pos h2, if_pos h3]
      · refine (Ev.const false).congr' (by simp [h3]) fun k => ?_
        rw [if_pos (by simp [h1]), if_pos h2, if_neg h3]
    · refine (Ev.const false).congr' (by simp [h2]) fun k => ?_
      rw [if_pos (by simp [h1]), if_neg h2]
  · refine (Ev.const false).congr' (by simp [h1]) fun k => ?_
    rw [if_neg (by simp [h1])]
theorem rret_ev (b : Bool) (x y : Int) (l : List S51) (b' : Bool) (x' y' : Int) (l' : List S51) (hl : l.length < 1000000000) : Ev (fun k => larchref06_SameRet.f k b x y l b' x' y' l') (sameR b x y l b' x' y' l') := by
  unfold larchref06_SameRet.f
  exact same_ret (rsame_ev l l' hl)
theorem mret_ev (b : Bool) (x y : Int) (l : List S51) (b' : Bool) (x' y' : Int) (l' : List S51) (hl : l.length < 1000000000) : Ev (fun k => model_SameRet.f k b x y l b' x' y' l') (sameR b x y l b' x' y' l') := by
  unfold model_SameRet.f
  exact same_ret (msame_ev l l' hl)
theorem sameR_refl (b : Bool) (x y : Int) (l : List S51) : sameR b x y l b x y l = true := by simp [sameR]
theorem sameR_comm (b : Bool) (x y : Int) (l : List S51) (b' : Bool) (x' y' : Int) (l' : List S51) : sameR b x y l b' x' y' l' = sameR b' x' y' l' b x y l := by
  unfold sameR
  exact decide_eq_decide.2 ⟨fun ⟨a, b, c, d⟩ => ⟨a.symm, b.symm, c.symm, d.symm⟩, fun ⟨a, b, c, d⟩ => ⟨a.symm, b.symm, c.symm, d.symm⟩⟩
theorem rd27_mem (l : List S27) (i : Nat) (h : i < l.length) : J27 l (i : Int) ∈ l := by
  unfold J27
  rw [Int.toNat_natCast, List.getD_eq_getElem?_getD, List.getElem?_eq_getElem h]
  exact List.getElem_mem h
theorem rrets_go (a : List S27) (hl : a.length < 1000000000) (hp : ∀ r ∈ a, r.f3.length < 1000000000) : ∀ d (j : Nat), j + d = a.length → Ev (fun k => larchref06_SameRets.l0 k a a (j : Int)) true
  | 0, j, hd => by
    refine Ev.succ ((Ev.const true).congr fun k => ?_)
    simp only [larchref06_SameRets.l0]
    rw [if_neg (by omega)]
  | d + 1, j, hd => by
    have hm := rd27_mem a j (by omega)
    have h1 := rret_ev (J27 a j).f0 (J27 a j).f1 (J27 a j).f2 (J27 a j).f3 (J27 a j).f0 (J27 a j).f1 (J27 a j).f2 (J27 a j).f3 (hp _ hm)
    rw [sameR_refl] at h1
    refine Ev.succ ((Ev.bind (g := fun k t => if t = true then larchref06_SameRets.l0 k a a ((j + 1 : Nat) : Int) else some false) h1 ((rrets_go a hl hp d (j + 1) (by omega)).congr fun k => if_pos rfl)).congr fun k => ?_)
    simp only [larchref06_SameRets.l0]
    rw [if_pos (by omega), if_pos (by omega), if_pos (by omega), wrap_succ (by omega)]
theorem rrets_ev (a : List S27) (hl : a.length < 1000000000) (hp : ∀ r ∈ a, r.f3.length < 1000000000) : Ev (fun k => larchref06_SameRets.f k a a) true := by
  unfold larchref06_SameRets.f
  refine (rrets_go a hl hp a.length 0 (by omega)).congr fun k => ?_
  rw [if_pos rfl]
  rfl
def fitL (m : List S51) (a b c d : Int) (g : Bool) (x y : Int) (ps : List S51) : Bool × Int :=
  if (doOf (runF m [⟨a, b, c, d⟩])).2.2.2.2.2 = 0 then (sameR (doOf (runF m [⟨a, b, c, d⟩])).2.1 (doOf (runF m [⟨a, b, c, d⟩])).2.2.1 (doOf (runF m [⟨a, b, c, d⟩])).2.2.2.1 (doOf (runF m [⟨a, b, c, d⟩])).2.2.2.2.1 g x y ps, 0) else (false, (doOf (runF m [⟨a, b, c, d⟩])).2.2.2.2.2)
theorem part_len (l : List S51) (lo hi : Int) : (partL l lo hi).length ≤ l.length := by
  unfold partL
  split
  · simp
  · rw [List.length_drop, List.length_take]; omega
theorem told_nil (l : List S51) (i : Int) : (toldL l i).f3 = [] := by
  unfold toldL
  split <;> rfl
theorem do_ps (l : List S51) (o : S25) : (doL l o).2.f3.length ≤ l.length := by
  unfold doL
  split
  · dsimp only
    split <;> simp
  · dsimp only
    unfold readL
    split
    · split <;> simp [zR]
    · split
      · simp [told_nil]
      · split
        · simp [told_nil]
        · split
          · simp [told_nil]
          · split
            · simp [told_nil]
            · split
              · exact part_len l _ _
              · simp [zR]
theorem run_bounds : ∀ (ops : List S25) (m : List S51), (runL m ops).1.length ≤ m.length + ops.length ∧ ∀ r ∈ (runL m ops).2, r.f3.length ≤ m.length + ops.length
  | [], m => by simp [runL]
  | o :: t, m => by
    have ih := run_bounds t (doL m o).1
    have h1 := do_len m o
    have h2 := do_ps m o
    refine ⟨by rw [runL, List.length_cons]; have := ih.1; dsimp only; omega, fun r hr => ?_⟩
    rw [runL] at hr
    rcases List.mem_cons.1 hr with rfl | hr
    · rw [List.length_cons]; omega
    · have := ih.2 r hr
      rw [List.length_cons]; omega
theorem doOf_len (m : List S51) (o : S25) : (doOf (runF m [o])).1.length ≤ m.length + 1 ∧ (doOf (runF m [o])).2.2.2.2.1.length ≤ m.length := by
  unfold runF doOf
  split
  · simp
  · split
    · simp
    · have h1 := do_len m o
      have h2 := do_ps m o
      exact ⟨h1, h2⟩
theorem rfit_ev (m : List S51) (a b c d : Int) (g : Bool) (x y : Int) (ps : List S51) (hm : m.length < 100000000) (hp : ps.length < 1000000000) : Ev (fun k => larchref06_Fits.f k m a b c d g x y ps) (fitL m a b c d g x y ps) := by
  unfold larchref06_Fits.f fitL
  refine Ev.bind (rdo_ev m a b c d hm) ?_
  generalize doOf (runF m [⟨a, b, c, d⟩]) = q
  by_cases h : q.2.2.2.2.2 = 0
  · rw [if_pos h, sameR_comm]
    refine (Ev.bind (g := fun _ t => some (t, (0 : Int))) (rret_ev g x y ps q.2.1 q.2.2.1 q.2.2.2.1 q.2.2.2.2.1 hp) (Ev.const (sameR g x y ps q.2.1 q.2.2.1 q.2.2.2.1 q.2.2.2.2.1, 0))).congr fun k => ?_
    rw [if_pos h]
  · rw [if_neg h]
    refine (Ev.const _).congr fun k => ?_
    rw [if_neg h]
theorem mfit_ev (m : List S51) (a b c d : Int) (g : Bool) (x y : Int) (ps : List S51) (hm : m.length < 100000000) : Ev (fun k => model_Fits.f k m a b c d g x y ps) (fitL m a b c d g x y ps) := by
  have hb := (doOf_len m ⟨a, b, c, d⟩).2
  unfold model_Fits.f fitL model_Do.f
  refine Ev.bind (x := doOf (runF m [⟨a, b, c, d⟩])) ((Ev.const _).congr fun k => by rw [if_pos hm]) ?_
  revert hb
  generalize doOf (runF m [⟨a, b, c, d⟩]) = q
  intro hb
  by_cases h : q.2.2.2.2.2 = 0
  · rw [if_pos h]
    refine (Ev.bind (g := fun _ t => some (t, (0 : Int))) (mret_ev q.2.1 q.2.2.1 q.2.2.2.1 q.2.2.2.2.1 g x y ps (by omega)) (Ev.const (sameR q.2.1 q.2.2.1 q.2.2.2.1 q.2.2.2.2.1 g x y ps, 0))).congr fun k => ?_
    rw [if_pos h, h]
  · rw [if_neg h]
    refine (Ev.const _).congr fun k => ?_
    rw [if_neg h]
end Go.Proofs.Ytanlnfcjdjamaaa.P
