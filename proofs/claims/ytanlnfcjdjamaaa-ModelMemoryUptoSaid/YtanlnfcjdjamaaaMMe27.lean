/- P.modelMemory_holds, part 28 of 37: the contracts of the Go functions that the law calls, its own walk, and its plain law, for every input that the statement speaks of. -/
import Derived.Test.YtanlnfcjdjamaaaMMe10
import Derived.Test.YtanlnfcjdjamaaaMMe17
import Derived.Test.YtanlnfcjdjamaaaMMe19
import Derived.Test.YtanlnfcjdjamaaaMMe2
import Derived.Test.YtanlnfcjdjamaaaMMe26
import Derived.Test.YtanlnfcjdjamaaaMMe24
import Derived.Test.YtanlnfcjdjamaaaMMe8
set_option linter.unusedVariables false
set_option linter.unusedSimpArgs false
/- P1 -/
namespace Go.Proofs.Ytanlnfcjdjamaaa.P
open Go.RowKit Go.Proofs.YtanlnfcjdjamaaaW.PrintWords Go.Proofs.YtanlnfcjdjamaaaW.PrintLast Go.Proofs.YtanlnfcjdjamaaaW.PrintMore
theorem rcheck_go (l : List S51) (hl : l.length < 1000000000) : ∀ d (j : Nat), j + 1 + d = l.length ∨ (d = 0 ∧ l.length ≤ j + 1) → Ev (fun k => larchref06_Check.l0 k l ((j + 1 : Nat) : Int)) (if chkUp (l.drop j) then 0 else 11)
  | 0, j, hd => by
    refine Ev.succ ((Ev.const 0).congr' (by rw [chk_end l j (by omega)]; rfl) fun k => ?_)
    simp only [larchref06_Check.l0]
    rw [if_neg (by omega)]
  | d + 1, j, hd => by
    have e1 : wrap64 (((j + 1 : Nat) : Int) - 1) = (j : Int) := by unfold wrap64; omega
    have e2 : wrap64 (((j + 1 : Nat) : Int) + 1) = ((j + 1 + 1 : Nat) : Int) := by unfold wrap64; omega
    rw [chk_drop l j (by omega)]
    by_cases hc : (J51 l ((j + 1 : Nat) : Int)).f0 ≤ (J51 l (j : Int)).f0
    · refine Ev.succ ((Ev.const 11).congr' (by rw [decide_eq_false (by omega)]; rfl) fun k => ?_)
      simp only [larchref06_Check.l0]
      rw [if_pos (by omega), if_pos (by omega), e1, if_pos (by omega), if_pos (by omega), if_pos hc]
    · refine Ev.succ ((rcheck_go l hl d (j + 1) (by omega)).congr' (by rw [decide_eq_true (by omega), Bool.true_and]) fun k => ?_)
      simp only [larchref06_Check.l0]
      rw [if_pos (by omega), if_pos (by omega), e1, if_pos (by omega), if_pos (by omega), if_neg hc, e2]
theorem rcheck_ev (l : List S51) (hl : l.length < 1000000000) : Ev (fun k => larchref06_Check.f k l) (if chkUp l then 0 else 11) := by
  have := rcheck_go l hl (l.length - 1) 0 (by omega)
  rw [List.drop_zero] at this
  exact this
theorem rkind_val (o : S25) : larchref06_Kind.f o.f0 = some (if okK o then 0 else 5) := by
  unfold larchref06_Kind.f okK
  by_cases h1 : o.f0 < 1
  · rw [if_pos h1, decide_eq_false (by omega)]; rfl
  · rw [if_neg h1]
    by_cases h2 : o.f0 > 9
    · rw [if_pos h2, decide_eq_false (by omega)]; rfl
    · rw [if_neg h2, decide_eq_true (by omega)]; rfl
theorem rstep_val (l : List S51) (h : Up l) (hl : l.length < 1000000000) (o : S25) (ho : okK o = true) : larchref06_Step.f l o.f0 o.f1 o.f2 o.f3 = some ((doL l o).1, (doL l o).2.f0, (doL l o).2.f1, (doL l o).2.f2, (doL l o).2.f3) := by
  have ho := of_decide_eq_true ho
  unfold larchref06_Step.f
  rw [if_pos ⟨hl, ho⟩, (do_step l h o ho.1 ho.2).1]
theorem drop25 (l : List S25) (j : Nat) (h : j < l.length) : l.drop j = J25 l (j : Int) :: l.drop (j + 1) := by rw [List.drop_eq_getElem_cons h, ← rd25_get l j h]
theorem rrun1_go (ops : List S25) (hn : ops.length < 100000000) : ∀ d (j : Nat) (m : List S51) (out : List S27), j + d = ops.length → (ops.drop j).all okK = true → Up m → m.length + d < 1000000000 → out.length ≤ j →
    Ev (fun k => larchref06_Run.l1 k ops out m (j : Int)) ((runL m (ops.drop j)).1, out ++ (runL m (ops.drop j)).2, 0)
  | 0, j, m, out, hd, ha, hu, hm, ho => by
    refine Ev.succ ((Ev.const (m, out, 0)).congr' (by rw [List.drop_eq_nil_of_le (by omega)]; simp [runL]) fun k => ?_)
    simp only [larchref06_Run.l1]
    rw [if_neg (by omega)]
  | d + 1, j, m, out, hd, ha, hu, hm, ho => by
    have hdr := drop25 ops j (by omega)
    rw [hdr] at ha ⊢
    rw [List.all_cons, Bool.and_eq_true] at ha
    have hds := do_step m hu (J25 ops j) (of_decide_eq_true ha.1).1 (of_decide_eq_true ha.1).2
    have hlen := do_len m (J25 ops j)
    refine Ev.succ ((rrun1_go ops hn d (j + 1) (doL m (J25 ops j)).1 (out ++ [(doL m (J25 ops j)).2]) (by omega) ha.2 hds.2 (by omega) (by simp; omega)).congr' (by simp [runL]) fun k => ?_)
    simp only [larchref06_Run.l1]
    rw [if_pos (by omega), if_pos (by omega), rstep_val m hu (by omega) _ ha.1, Option.bind_some, if_pos (by omega), wrap_succ (by omega)]
theorem rrun0_go (m : List S51) (ops : List S25) (hm : m.length < 100000000) (hn : ops.length < 100000000) (hu : Up m) : ∀ d (j : Nat), j + d = ops.length → (ops.take j).all okK = true →
    Ev (fun k => larchref06_Run.l0 k m ops (j : Int)) (if ops.all okK then ((runL m ops).1, (runL m ops).2, 0) else ([], [], 5))
  | 0, j, hd, ha => by
    rw [List.take_of_length_le (by omega)] at ha
    have h1 := rrun1_go ops hn ops.length 0 m [] (by omega) (by rw [List.drop_zero]; exact ha) hu (by omega) (by simp)
    refine Ev.succ (h1.congr' (by rw [List.drop_zero, ha]; rfl) fun k => ?_)
    simp only [larchref06_Run.l0]
    rw [if_neg (by omega), Option.bind_some, if_pos (by simp; omega), List.nil_append]
    rfl
  | d + 1, j, hd, ha => by
    have hlt : j < ops.length := by omega
    by_cases hk : okK (J25 ops (j : Int)) = true
    · refine Ev.succ ((rrun0_go m ops hm hn hu d (j + 1) (by omega) (by rw [take_snoc25 ops j hlt, List.all_append, ha]; simp [hk])).congr fun k => ?_)
      simp only [larchref06_Run.l0]
      rw [if_pos (by omega), if_pos (by omega), rkind_val, Option.bind_some, if_pos (by rw [hk]; rfl), wrap_succ (by omega)]
    · have hk : okK (J25 ops (j : Int)) = false := by simpa using hk
      have hall : ops.all okK = false := by
        rw [← List.take_append_drop j ops, drop25 ops j hlt]
        simp [hk]
      refine Ev.succ ((Ev.const ([], [], 5)).congr' (by rw [hall]; rfl) fun k => ?_)
      simp only [larchref06_Run.l0]
      rw [if_pos (by omega), if_pos (by omega), rkind_val, Option.bind_some, if_neg (by rw [hk]; decide)]
theorem rcheck_up (m : List S51) (hm : m.length < 100000000) (hc : chkUp m = true) : Ev (fun k => larchref06_Check.f k m) 0 := by
  have h := rcheck_ev m (by omega)
  rwa [if_pos hc] at h
theorem rcheck_no (m : List S51) (hm : m.length < 100000000) (hc : chkUp m = false) : Ev (fun k => larchref06_Check.f k m) 11 := by
  have h := rcheck_ev m (by omega)
  rwa [hc, if_neg (by simp)] at h
theorem runF_no {m : List S51} (ops : List S25) (hc : chkUp m = false) : runF m ops = ([], [], 11) := by unfold runF; rw [if_pos hc]
theorem runF_up {m : List S51} (ops : List S25) (hc : chkUp m = true) : runF m ops = if ops.all okK then ((runL m ops).1, (runL m ops).2, 0) else ([], [], 5) := by
  unfold runF
  rw [if_neg (by simp [hc])]
  cases ops.all okK <;> rfl
theorem rrun_ev (m : List S51) (ops : List S25) (hm : m.length < 100000000) (hn : ops.length < 100000000) : Ev (fun k => larchref06_Run.f k m ops) (runF m ops) := by
  unfold larchref06_Run.f
  by_cases hc : chkUp m = true
  · refine Ev.bind (rcheck_up m hm hc) ?_
    rw [runF_up ops hc]
    exact (rrun0_go m ops hm hn ((chk_up m).1 hc) ops.length 0 (by omega) (by simp)).congr fun k => if_pos rfl
  · have hc : chkUp m = false := by simpa using hc
    refine Ev.bind (rcheck_no m hm hc) ?_
    rw [runF_no ops hc]
    exact (Ev.const _).congr fun k => if_neg (by decide)
theorem rdo_ev (m : List S51) (a b c d : Int) (hm : m.length < 100000000) : Ev (fun k => larchref06_Do.f k m a b c d) (doOf (runF m [⟨a, b, c, d⟩])) := by
  unfold larchref06_Do.f
  by_cases hc : chkUp m = true
  · refine Ev.bind (rcheck_up m hm hc) ?_
    rw [runF_up _ hc]
    have hkv : larchref06_Kind.f a = _ := rkind_val ⟨a, b, c, d⟩
    refine (Ev.const _).congr fun k => ?_
    rw [if_pos rfl, hkv]
    by_cases hk : okK ⟨a, b, c, d⟩ = true
    · have hst : larchref06_Step.f m a b c d = _ := rstep_val m ((chk_up m).1 hc) (by omega) ⟨a, b, c, d⟩ hk
      rw [if_pos (show List.all [⟨a, b, c, d⟩] okK = true by simp [hk]), if_pos hk, Option.bind_some, if_pos rfl, hst]
      rfl
    · rw [if_neg (show ¬ List.all [⟨a, b, c, d⟩] okK = true by simpa using hk), if_neg hk, Option.bind_some, if_neg (by decide)]
      rfl
  · have hc : chkUp m = false := by simpa using hc
    refine Ev.bind (rcheck_no m hm hc) ?_
    rw [runF_no _ hc]
    refine (Ev.const _).congr fun k => ?_
    rw [if_neg (by decide)]
    rfl
instance : DecidableEq S51 := fun x y => decidable_of_iff (x.f0 = y.f0 ∧ x.f1 = y.f1) (by cases x; cases y; simp)
theorem pair_eq (x y : S51) : ((!(x.f0 == y.f0)) || (!(x.f1 == y.f1))) = !decide (x = y) := by
  rw [show decide (x = y) = decide (x.f0 = y.f0 ∧ x.f1 = y.f1) from decide_eq_decide.2 (by cases x; cases y; simp)]
  by_cases h1 : x.f0 = y.f0 <;> by_cases h2 : x.f1 = y.f1 <;> simp [h1, h2]
theorem rsame_go (a b : List S51) (hl : a.length < 1000000000) (he : a.length = b.length) : ∀ d (j : Nat), j + d = a.length → Ev (fun k => larchref06_Same.l0 k a b (j : Int)) (decide (a.drop j = b.drop j))
  | 0, j, hd => by
    refine Ev.succ ((Ev.const true).congr' (by rw [List.drop_eq_nil_of_le (by omega), List.drop_eq_nil_of_le (by omega)]; simp) fun k => ?_)
    simp only [larchref06_Same.l0]
    rw [if_neg (by omega)]
  | d + 1, j, hd => by
    rw [drop51 a j (by omega), drop51 b j (by omega)]
    by_cases h : J51 a (j : Int) = J51 b (j : Int)
    · refine Ev.succ ((rsame_go a b hl he d (j + 1) (by omega)).congr' (by simp [h]) fun k => ?_)
      simp only [larchref06_Same.l0, pair_eq]
      rw [if_pos (by omega), if_pos (by omega), if_pos (by omega), if_neg (by simp [h]), wrap_succ (by omega)]
    · refine Ev.succ ((Ev.const false).congr' (by simp [h]) fun k => ?_)
      simp only [larchref06_Same.l0, pair_eq]
      rw [if_pos (by omega), if_pos (by omega), if_pos (by omega), if_pos (by simp [h])]
theorem rsame_ev (a b : List S51) (hl : a.length < 1000000000) : Ev (fun k => larchref06_Same.f k a b) (decide (a = b)) := by
  unfold larchref06_Same.f
  by_cases he : a.length = b.length
  · refine (rsame_go a b hl he a.length 0 (by omega)).congr fun k => ?_
    rw [if_pos (by omega)]
    rfl
  · refine (Ev.const false).congr' (decide_eq_false (fun h => he (by rw [h]))) fun k => ?_
    rw [if_neg (by omega)]
def sameR (b : Bool) (x y : Int) (l : List S51) (b' : Bool) (x' y' : Int) (l' : List S51) : Bool := decide (b = b' ∧ x = x' ∧ y = y' ∧ l = l')
theorem same_ret {f : Nat → Option Bool} {b : Bool} {x y : Int} {l : List S51} {b' : Bool} {x' y' : Int} {l' : List S51} (h : Ev f (decide (l = l'))) :
    Ev (fun k => if (b == b') = true then (if x = x' then (if y = y' then ((f k).bind fun t => (some t)) else (some false)) else (some false)) else (some false)) (sameR b x y l b' x' y' l') := by
  unfold sameR
  by_cases h1 : b = b'
  · by_cases h2 : x = x'
    · by_cases h3 : y = y'
      · refine (Ev.bind h (Ev.const _)).congr' (by simp [h1, h2, h3]) fun k => ?_
        rw [if_pos (by simp [h1]), if_pos h2, if_pos h3]
      · refine (Ev.const false).congr' (by simp [h3]) fun k => ?_
        rw [if_pos (by simp [h1]), if_pos h2, if_neg h3]
    · refine (Ev.const false).congr' (by simp [h2]) fun k => ?_
      rw [if_pos (by simp [h1]), if_neg h2]
  · refine (Ev.const false).congr' (by simp [h1]) fun k => ?_
    rw [if_neg (by simp [h1])]
theorem rret_ev (b : Bool) (x y : Int) (l : List S51) (b' : Bool) (x' y' : Int) (l' : List S51) (hl : l.length < 1000000000) : Ev (fun k => larchref06_SameRet.f k b x y l b' x' y' l') (sameR b x y l b' x' y' l') := by
  unfold larchref06_SameRet.f
  exact same_ret (rsame_ev l l' hl)
theorem sameR_refl (b : Bool) (x y : Int) (l : List S51) : sameR b x y l b x y l = true := by simp [sameR]
theorem rd27_mem (l : List S27) (i : Nat) (h : i < l.length) : J27 l (i : Int) ∈ l := by
  unfold J27
  rw [Int.toNat_natCast, List.getD_eq_getElem?_getD, List.getElem?_eq_getElem h]
  exact List.getElem_mem h
theorem rrets_go (a : List S27) (hl : a.length < 1000000000) (hp : ∀ r ∈ a, r.f3.length < 1000000000) : ∀ d (j : Nat), j + d = a.length → Ev (fun k => larchref06_SameRets.l0 k a a (j : Int)) true
  | 0, j, hd => by
    refine Ev.succ ((Ev.const true).congr fun k => ?_)
    simp only [larchref06_SameRets.l0]
    rw [if_neg (by omega)]
  | d + 1, j, hd => by
    have hm := rd27_mem a j (by omega)
    have h1 := rret_ev (J27 a j).f0 (J27 a j).f1 (J27 a j).f2 (J27 a j).f3 (J27 a j).f0 (J27 a j).f1 (J27 a j).f2 (J27 a j).f3 (hp _ hm)
    rw [sameR_refl] at h1
    refine Ev.succ ((Ev.bind (g := fun k t => if t = true then larchref06_SameRets.l0 k a a ((j + 1 : Nat) : Int) else some false) h1 ((rrets_go a hl hp d (j + 1) (by omega)).congr fun k => if_pos rfl)).congr fun k => ?_)
    simp only [larchref06_SameRets.l0]
    rw [if_pos (by omega), if_pos (by omega), if_pos (by omega), wrap_succ (by omega)]
theorem rrets_ev (a : List S27) (hl : a.length < 1000000000) (hp : ∀ r ∈ a, r.f3.length < 1000000000) : Ev (fun k => larchref06_SameRets.f k a a) true := by
  unfold larchref06_SameRets.f
  refine (rrets_go a hl hp a.length 0 (by omega)).congr fun k => ?_
  rw [if_pos rfl]
  rfl
theorem part_len (l : List S51) (lo hi : Int) : (partL l lo hi).length ≤ l.length := by
  unfold partL
  split
  · simp
  · rw [List.length_drop, List.length_take]; omega
theorem told_nil (l : List S51) (i : Int) : (toldL l i).f3 = [] := by
  unfold toldL
  split <;> rfl
theorem do_ps (l : List S51) (o : S25) : (doL l o).2.f3.length ≤ l.length := by
  unfold doL
  split
  · dsimp only
    split <;> simp
  · dsimp only
    unfold readL
    split
    · split <;> simp [zR]
    · split
      · simp [told_nil]
      · split
        · simp [told_nil]
        · split
          · simp [told_nil]
          · split
            · simp [told_nil]
            · split
              · exact part_len l _ _
              · simp [zR]
theorem run_bounds : ∀ (ops : List S25) (m : List S51), (runL m ops).1.length ≤ m.length + ops.length ∧ ∀ r ∈ (runL m ops).2, r.f3.length ≤ m.length + ops.length
  | [], m => by simp [runL]
  | o :: t, m => by
    have ih := run_bounds t (doL m o).1
    have h1 := do_len m o
    have h2 := do_ps m o
    refine ⟨by rw [runL, List.length_cons]; have := ih.1; dsimp only; omega, fun r hr => ?_⟩
    rw [runL] at hr
    rcases List.mem_cons.1 hr with rfl | hr
    · rw [List.length_cons]; omega
    · have := ih.2 r hr
      rw [List.length_cons]; omega
theorem doOf_len (m : List S51) (o : S25) : (doOf (runF m [o])).1.length ≤ m.length + 1 ∧ (doOf (runF m [o])).2.2.2.2.1.length ≤ m.length := by
  unfold runF doOf
  split
  · simp
  · split
    · simp
    · have h1 := do_len m o
      have h2 := do_ps m o
      exact ⟨h1, h2⟩
end Go.Proofs.Ytanlnfcjdjamaaa.P
/- P3 -/
namespace Go.Proofs.Ytanlnfcjdjamaaa.P
open Go.RowKit Go.Proofs.YtanlnfcjdjamaaaW.PrintWords Go.Proofs.YtanlnfcjdjamaaaW.PrintLast Go.Proofs.YtanlnfcjdjamaaaW.PrintMore
def fk (k : Int) (l : List S51) : List S51 := l.filter (fun a => decide (ky a = k))
theorem fk_nil_of {k : Int} {l : List S51} (h : ∀ a ∈ l, ky a ≠ k) : fk k l = [] := List.filter_eq_nil_iff.2 (fun a ha => by simpa using h a ha)
theorem fk_app (k : Int) (a b : List S51) : fk k (a ++ b) = fk k a ++ fk k b := List.filter_append ..
theorem fk_cons (k : Int) (a : S51) (b : List S51) : fk k (a :: b) = if ky a = k then a :: fk k b else fk k b := by
  unfold fk
  rw [List.filter_cons]
  by_cases h : ky a = k <;> simp [h]
theorem up_srt {l : List S51} (h : Up l) : Sym.Srt ky l := List.Pairwise.imp (fun hab => by unfold ky; omega) h
theorem with_up {l : List S51} (h : Up l) (key val : Int) : Up (withL key val false l) := by
  have := do_step l h ⟨2, key, val, 0⟩ (show (1 : Int) ≤ 2 by decide) (show (2 : Int) ≤ 9 by decide)
  have h2 : (doL l ⟨2, key, val, 0⟩).1 = withL key val false l := by
    rw [this.1]
    unfold stepL
    simp
  rw [← h2]
  exact this.2
theorem with_fk {l : List S51} (h : Up l) (key val : Int) (k : Int) : fk k (withL key val false l) = if key = k then [⟨key, val⟩] else fk k l := by
  obtain ⟨A, B, rfl, ha, hb, ua, ub⟩ := up_split l key h
  rw [with_split ha, fk_app, fk_app]
  rcases behind hb ub with ⟨x, B', rfl, hx, hB'⟩ | hB
  · rw [with_yes hx hB', fk_cons, fk_cons]
    by_cases hk : key = k
    · rw [if_pos hk, if_pos (show ky (⟨key, val⟩ : S51) = k from hk), fk_nil_of (fun a hm => by have := ha a hm; unfold ky; omega), fk_nil_of (fun a hm => by have := hB' a hm; unfold ky; omega)]
      rfl
    · rw [if_neg hk, if_neg (show ¬ ky (⟨key, val⟩ : S51) = k from hk), if_neg (by unfold ky; omega)]
  · rw [with_no hB, fk_cons]
    by_cases hk : key = k
    · rw [if_pos hk, if_pos (show ky (⟨key, val⟩ : S51) = k from hk), fk_nil_of (fun a hm => by have := ha a hm; unfold ky; omega), fk_nil_of (fun a hm => by have := hB a hm; unfold ky; omega)]
      rfl
    · rw [if_neg hk, if_neg (show ¬ ky (⟨key, val⟩ : S51) = k from hk)]
theorem with_len0 (key val : Int) : ∀ (l : List S51), (withL key val false l).length ≤ l.length + 1
  | [] => by simp [withL]
  | x :: r => by
    have h1 : (withL key val true r).length ≤ r.length := by rw [with_true]; exact List.length_filter_le _ _
    have h0 := with_len0 key val r
    rw [withL]
    by_cases h : key ≤ x.f0
    · rw [decide_eq_true h, Bool.or_true, if_pos ⟨rfl, h⟩]
      split <;> simp <;> omega
    · rw [decide_eq_false h, Bool.or_false, if_neg (by omega)]
      split <;> simp <;> omega
def putAll : List S51 → List S51 → List S51
  | m, [] => m
  | m, x :: r => putAll (withL x.f0 x.f1 false m) r
theorem putAll_up : ∀ (l m : List S51), Up m → Up (putAll m l)
  | [], m, h => h
  | x :: r, m, h => putAll_up r _ (with_up h x.f0 x.f1)
theorem getLast_cons_some {α : Type} {a y : α} {r : List α} (h : r.getLast? = some y) : (a :: r).getLast? = some y := by
  cases r with
  | nil => simp at h
  | cons b r => rw [List.getLast?_cons_cons]; exact h
theorem putAll_fk (k : Int) : ∀ (l m : List S51), Up m → fk k (putAll m l) = match (fk k l).getLast? with | none => fk k m | some x => [x]
  | [], m, h => rfl
  | x :: r, m, h => by
    rw [putAll, putAll_fk k r _ (with_up h x.f0 x.f1), with_fk h, fk_cons]
    by_cases hk : x.f0 = k
    · rw [if_pos hk, if_pos (show ky x = k from hk)]
      cases hg : (fk k r).getLast? with
      | none =>
        have : fk k r = [] := List.getLast?_eq_none_iff.1 hg
        rw [this]
        rfl
      | some y => rw [getLast_cons_some hg]
    · rw [if_neg hk, if_neg (show ¬ ky x = k from hk)]
theorem last_sub : ∀ (n : Nat) (l : List S51), l.length ≤ n → (lastL l).Sublist l
  | n, [], _ => by simp [lastL]
  | n, [x], _ => by simp [lastL]
  | n + 1, x :: y :: r, h => by
    rw [lastL]
    have := last_sub n (y :: r) (by simp at h ⊢; omega)
    split
    · exact this.cons x
    · exact this.cons_cons x
theorem last_fk (k : Int) : ∀ (n : Nat) (l : List S51), l.length ≤ n → Sym.Srt ky l → fk k (lastL l) = match (fk k l).getLast? with | none => [] | some x => [x]
  | n, [], _, _ => by simp [lastL, fk]
  | n, [x], _, _ => by
    rw [lastL, fk_cons]
    by_cases hk : ky x = k
    · rw [if_pos hk]; simp [fk]
    · rw [if_neg hk]; simp [fk]
  | n + 1, x :: y :: r, h, hs => by
    have hs' := List.pairwise_cons.1 hs
    have ih := last_fk k n (y :: r) (by simp at h ⊢; omega) hs'.2
    rw [lastL, fk_cons]
    split
    · rename_i he
      rw [ih]
      by_cases hk : ky x = k
      · rw [if_pos hk]
        cases hg : (fk k (y :: r)).getLast? with
        | none =>
          have h0 : fk k (y :: r) = [] := List.getLast?_eq_none_iff.1 hg
          rw [fk_cons, if_pos (show ky y = k by unfold ky at hk ⊢; omega)] at h0
          cases h0
        | some z => rw [getLast_cons_some hg]
      · rw [if_neg hk]
    · rename_i he
      rw [fk_cons]
      by_cases hk : ky x = k
      · have h0 : fk k (y :: r) = [] := fk_nil_of (fun a ha => by
          have h1 := hs'.1 y (by simp)
          have h2 : ky y ≤ ky a := by
            rcases List.mem_cons.1 ha with rfl | ha
            · exact Int.le_refl _
            · exact (List.pairwise_cons.1 hs'.2).1 a ha
          unfold ky at *; omega)
        rw [if_pos hk, if_pos hk, h0] 
        rw [h0] at ih
        rw [ih]
        rfl
      · rw [if_neg hk, if_neg hk, ih]
theorem of_put (l : List S51) : ofL l = putAll [] l := by
  have hs := srtL_st l
  refine Sym.srt_eq ky _ _ (List.Pairwise.sublist (last_sub _ (srtL l) (Nat.le_refl _)) hs.srt) (up_srt (putAll_up l [] List.Pairwise.nil)) (fun k => ?_)
  show fk k (ofL l) = fk k (putAll [] l)
  rw [putAll_fk k l [] List.Pairwise.nil]
  unfold ofL
  rw [last_fk k _ (srtL l) (Nat.le_refl _) hs.srt, show fk k (srtL l) = fk k l from hs.same k]
  cases (fk k l).getLast? <;> rfl
theorem rof_go (l : List S51) (hl : l.length < 100000000) : ∀ d (j : Nat) (m : List S51), j + d = l.length → m.length ≤ j → Ev (fun k => larchref06_Of.l0 k l m (j : Int)) (putAll m (l.drop j))
  | 0, j, m, hd, hm => by
    refine Ev.succ ((Ev.const m).congr' (by rw [List.drop_eq_nil_of_le (by omega)]; rfl) fun k => ?_)
    simp only [larchref06_Of.l0]
    rw [if_neg (by omega)]
  | d + 1, j, m, hd, hm => by
    rw [drop51 l j (by omega), putAll]
    have hw := with_len0 (J51 l (j : Int)).f0 (J51 l (j : Int)).f1 m
    refine Ev.succ ((Ev.bind (g := fun k t => larchref06_Of.l0 k l t ((j + 1 : Nat) : Int)) (with_ev m (by omega) (J51 l (j : Int)).f0 (J51 l (j : Int)).f1 false) (rof_go l hl d (j + 1) _ (by omega) (by omega))).congr fun k => ?_)
    simp only [larchref06_Of.l0]
    rw [if_pos (by omega), if_pos (by omega), wrap_succ (by omega)]
theorem rof_ev (l : List S51) (hl : l.length < 100000000) : Ev (fun k => larchref06_Of.f k l) (ofL l) := by
  rw [of_put]
  have := rof_go l hl l.length 0 [] (by omega) (Nat.le_refl _)
  rw [List.drop_zero] at this
  exact this
end Go.Proofs.Ytanlnfcjdjamaaa.P
/- P4 -/
namespace Go.Proofs.Ytanlnfcjdjamaaa.P
open Go.RowKit Go.Proofs.YtanlnfcjdjamaaaW.PrintWords Go.Proofs.YtanlnfcjdjamaaaW.PrintLast Go.Proofs.YtanlnfcjdjamaaaW.PrintMore
theorem mcheck_ev (m : List S51) (hm : m.length < 100000000) : Ev (fun k => model_Check.f k m) (if chkUp m then 0 else 11) := by
  refine ⟨m.length + 1, fun k hk => ?_⟩
  have := check_go m (by omega) (m.length - 1) 0 k (by omega) (by omega)
  rw [List.drop_zero] at this
  exact this
theorem mcheck_up (m : List S51) (hm : m.length < 100000000) (hc : chkUp m = true) : Ev (fun k => model_Check.f k m) 0 := by
  have h := mcheck_ev m hm
  rwa [if_pos hc] at h
theorem mcheck_no (m : List S51) (hm : m.length < 100000000) (hc : chkUp m = false) : Ev (fun k => model_Check.f k m) 11 := by
  have h := mcheck_ev m hm
  rwa [hc, if_neg (by simp)] at h
def findV (m : List S51) (key : Int) : Int × Bool × Int := if chkUp m then ((cntL m key : Int), hasL m key, 0) else (0, false, 11)
theorem mfind_ev (m : List S51) (hm : m.length < 100000000) (key : Int) : Ev (fun k => model_Find.f k m key) (findV m key) := by
  unfold model_Find.f findV
  by_cases hc : chkUp m = true
  · refine Ev.bind (mcheck_up m hm hc) ?_
    refine (Ev.const _).congr' (by rw [if_pos hc]) fun k => ?_
    rw [if_pos rfl, find_up m ((chk_up m).1 hc) (by omega) key]
    rfl
  · have hc : chkUp m = false := by simpa using hc
    refine Ev.bind (mcheck_no m hm hc) ?_
    refine (Ev.const (0, false, 11)).congr' (by rw [hc]; rfl) fun k => ?_
    rw [if_neg (by decide)]
def partV (m : List S51) (lo hi : Int) : List S51 × Int := if chkUp m then (insideL m lo hi, 0) else ([], 11)
theorem mpart_ev (m : List S51) (hm : m.length < 100000000) (lo hi : Int) : Ev (fun k => model_Part.f k m lo hi) (partV m lo hi) := by
  unfold model_Part.f partV
  by_cases hc : chkUp m = true
  · refine Ev.bind (mcheck_up m hm hc) ?_
    refine (Ev.const _).congr' (by rw [if_pos hc]) fun k => ?_
    rw [if_pos rfl, part_up m ((chk_up m).1 hc) (by omega), part_inside m ((chk_up m).1 hc)]
    rfl
  · have hc : chkUp m = false := by simpa using hc
    refine Ev.bind (mcheck_no m hm hc) ?_
    refine (Ev.const ([], 11)).congr' (by rw [hc]; rfl) fun k => ?_
    rw [if_neg (by decide)]
theorem rpart_ev (m : List S51) (hm : m.length < 100000000) (lo hi : Int) : Ev (fun k => larchref06_Part.f k m lo hi) (partV m lo hi) := by
  unfold larchref06_Part.f partV
  by_cases hc : chkUp m = true
  · refine Ev.bind (rcheck_up m hm hc) ?_
    refine (Ev.bind (g := fun _ t => some (t, (0 : Int))) (inside_ev m (by omega) lo hi) (Ev.const _)).congr' (by rw [if_pos hc]) fun k => ?_
    rw [if_pos rfl]
  · have hc : chkUp m = false := by simpa using hc
    refine Ev.bind (rcheck_no m hm hc) ?_
    refine (Ev.const ([], 11)).congr' (by rw [hc]; rfl) fun k => ?_
    rw [if_neg (by decide)]
end Go.Proofs.Ytanlnfcjdjamaaa.P
/- P5 -/
namespace Go.Proofs.Ytanlnfcjdjamaaa.P
open Go.RowKit Go.Proofs.YtanlnfcjdjamaaaW.PrintWords Go.Proofs.YtanlnfcjdjamaaaW.PrintLast Go.Proofs.YtanlnfcjdjamaaaW.PrintMore
def dL : Nat → List S51 → List S51 → List Int
  | 0, _, _ => []
  | _ + 1, [], [] => []
  | n + 1, x :: a, [] => x.f0 :: dL n a []
  | n + 1, [], y :: b => y.f0 :: dL n [] b
  | n + 1, x :: a, y :: b => if x.f0 < y.f0 then x.f0 :: dL n a (y :: b) else if y.f0 < x.f0 then y.f0 :: dL n (x :: a) b else if x.f1 = y.f1 then dL n a b else x.f0 :: dL n a b
theorem il (n : Nat) : (1 : Int) ≤ (n : Int) + 1 := by omega
theorem il0 (n : Nat) : (0 : Int) < (n : Int) + 1 := by omega
theorem iln (n : Nat) : ¬ ((n : Int) + 1 = 0) := by omega
theorem rd0 (x : S51) (a : List S51) : J51 (x :: a) 0 = x := rfl
theorem mdiff_go : ∀ (n : Nat) (a b : List S51) (out : List Int), a.length + b.length ≤ n → out.length + n < 1000000000 → Ev (fun k => model_Differ.l0 k a b out) (out ++ dL n a b, 0)
  | 0, [], [], out, _, _ => by
    refine Ev.succ (Ev.succ ((Ev.const (out, 0)).congr' (by simp [dL]) fun k => ?_))
    simp [model_Differ.l0, model_Differ.j2]
  | 0, x :: a, b, out, hn, _ => by simp at hn
  | 0, [], y :: b, out, hn, _ => by simp at hn
  | n + 1, [], [], out, _, _ => by
    refine Ev.succ (Ev.succ ((Ev.const (out, 0)).congr' (by simp [dL]) fun k => ?_))
    simp [model_Differ.l0, model_Differ.j2]
  | n + 1, x :: a, [], out, hn, ho => by
    simp only [List.length_cons, List.length_nil] at hn
    refine Ev.succ (Ev.succ (Ev.succ ((mdiff_go n a [] (out ++ [x.f0]) (by simp; omega) (by simp; omega)).congr' (by simp [dL]) fun k => ?_)))
    simp only [model_Differ.l0, model_Differ.j2, model_Differ.j3]
    simp [rd0, il, il0, iln, show out.length < 17592186044416 by omega]
  | n + 1, [], y :: b, out, hn, ho => by
    simp only [List.length_cons, List.length_nil] at hn
    refine Ev.succ (Ev.succ (Ev.succ (Ev.succ ((mdiff_go n [] b (out ++ [y.f0]) (by simp; omega) (by simp; omega)).congr' (by simp [dL]) fun k => ?_))))
    simp only [model_Differ.l0, model_Differ.j2, model_Differ.j3, model_Differ.j4]
    simp [rd0, il, il0, iln, show out.length < 17592186044416 by omega]
  | n + 1, x :: a, y :: b, out, hn, ho => by
    simp only [List.length_cons] at hn
    by_cases h1 : x.f0 < y.f0
    · refine Ev.succ (Ev.succ (Ev.succ ((mdiff_go n a (y :: b) (out ++ [x.f0]) (by simp; omega) (by simp; omega)).congr' (by simp [dL, h1]) fun k => ?_)))
      simp only [model_Differ.l0, model_Differ.j2, model_Differ.j3]
      simp [rd0, il, il0, iln, h1, show out.length < 17592186044416 by omega]
    · by_cases h2 : y.f0 < x.f0
      · refine Ev.succ (Ev.succ (Ev.succ (Ev.succ ((mdiff_go n (x :: a) b (out ++ [y.f0]) (by simp; omega) (by simp; omega)).congr' (by simp [dL, h1, h2]) fun k => ?_))))
        simp only [model_Differ.l0, model_Differ.j2, model_Differ.j3, model_Differ.j4]
        simp [rd0, il, il0, iln, h1, h2, show out.length < 17592186044416 by omega]
      · by_cases h3 : x.f1 = y.f1
        · refine Ev.succ (Ev.succ (Ev.succ (Ev.succ ((mdiff_go n a b out (by omega) (by omega)).congr' (by simp [dL, h1, h2, h3]) fun k => ?_))))
          simp only [model_Differ.l0, model_Differ.j2, model_Differ.j3, model_Differ.j4]
          simp [rd0, il, il0, iln, h1, h2, h3]
        · refine Ev.succ (Ev.succ (Ev.succ (Ev.succ ((mdiff_go n a b (out ++ [x.f0]) (by omega) (by simp; omega)).congr' (by simp [dL, h1, h2, h3]) fun k => ?_))))
          simp only [model_Differ.l0, model_Differ.j2, model_Differ.j3, model_Differ.j4]
          simp [rd0, il, il0, iln, h1, h2, h3, show out.length < 17592186044416 by omega]
end Go.Proofs.Ytanlnfcjdjamaaa.P
/- P6 -/
namespace Go.Proofs.Ytanlnfcjdjamaaa.P
open Go.RowKit Go.Proofs.YtanlnfcjdjamaaaW.PrintWords Go.Proofs.YtanlnfcjdjamaaaW.PrintLast Go.Proofs.YtanlnfcjdjamaaaW.PrintMore
def diffV (a b : List S51) : List Int × Int := if chkUp a = true ∧ chkUp b = true then (dL (a.length + b.length) a b, 0) else ([], 11)
theorem of_len (l : List S51) : (ofL l).length ≤ l.length := by
  unfold ofL
  have := last_le _ (srtL l) (Nat.le_refl _)
  rw [(srtL_st l).len] at this
  exact this
theorem mdiff_ev (a b : List S51) (ha : a.length < 100000000) (hb : b.length < 100000000) : Ev (fun k => model_Differ.f k a b) (diffV a b) := by
  unfold model_Differ.f diffV
  by_cases h1 : chkUp a = true
  · refine Ev.bind (mcheck_up a ha h1) ?_
    by_cases h2 : chkUp b = true
    · rw [if_pos ⟨h1, h2⟩]
      refine (Ev.bind (g := fun k t => model_Differ.j0 k a b (t != 0)) (mcheck_up b hb h2) (Ev.succ ((mdiff_go (a.length + b.length) a b [] (Nat.le_refl _) (by simp; omega)).congr' (by simp) fun k => ?_))).congr fun k => if_pos rfl
      simp [model_Differ.j0]
    · have h2' : chkUp b = false := by simpa using h2
      rw [if_neg (fun h => h2 h.2)]
      refine (Ev.bind (g := fun k t => model_Differ.j0 k a b (t != 0)) (mcheck_no b hb h2') (Ev.succ ((Ev.const _).congr fun k => ?_))).congr fun k => if_pos rfl
      simp [model_Differ.j0]
  · have h1' : chkUp a = false := by simpa using h1
    refine Ev.bind (mcheck_no a ha h1') ?_
    rw [if_neg (fun h => h1 h.1)]
    refine (Ev.succ (f := fun k => model_Differ.j0 k a b true) ((Ev.const _).congr fun k => ?_)).congr fun k => if_neg (by decide)
    simp [model_Differ.j0]
end Go.Proofs.Ytanlnfcjdjamaaa.P
/- P10 -/
namespace Go.Proofs.Ytanlnfcjdjamaaa.P
open Go.RowKit Go.Proofs.YtanlnfcjdjamaaaW.PrintWords Go.Proofs.YtanlnfcjdjamaaaW.PrintLast Go.Proofs.YtanlnfcjdjamaaaW.PrintMore
theorem fixed_evW : Ev (fun k => larchlaw06_fixed.f k) true := Ev.of_mono 12 (by kernel_rfl) larchlaw06_fixed.mono
end Go.Proofs.Ytanlnfcjdjamaaa.P
/- P12 -/
namespace Go.Proofs.Ytanlnfcjdjamaaa.P
open Go.RowKit Go.Proofs.YtanlnfcjdjamaaaW.PrintWords Go.Proofs.YtanlnfcjdjamaaaW.PrintLast Go.Proofs.YtanlnfcjdjamaaaW.PrintMore
theorem rsame_fuel (l : List S51) (hl : l.length < 1000000000) : ∀ d (j k : Nat), j + d = l.length → d < k → larchref06_Same.l0 k l l (j : Int) = some true
  | 0, j, 0, _, hk => absurd hk (Nat.lt_irrefl _)
  | 0, j, k + 1, hd, _ => by
    simp only [larchref06_Same.l0]
    rw [if_neg (by omega)]
  | d + 1, j, 0, _, hk => absurd hk (Nat.not_lt_zero _)
  | d + 1, j, k + 1, hd, hk => by
    simp only [larchref06_Same.l0, pair_eq]
    rw [if_pos (by omega), if_pos (by omega), if_pos (by omega), if_neg (by simp), wrap_succ (by omega)]
    exact rsame_fuel l hl d (j + 1) k (by omega) (by omega)
theorem same_all {k : Nat} (hk : 1001 ≤ k) (l : List S51) (hl : l.length ≤ 1000) : larchref06_Same.f k l l = some true := by
  unfold larchref06_Same.f
  rw [if_pos rfl]
  exact rsame_fuel l (by omega) l.length 0 k (by omega) (by omega)
end Go.Proofs.Ytanlnfcjdjamaaa.P
