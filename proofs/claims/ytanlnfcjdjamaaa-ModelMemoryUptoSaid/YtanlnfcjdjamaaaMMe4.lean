/- P.modelMemory_holds, part 5 of 37: the contracts of the Go functions that the law calls, its own walk, and its plain law, for every input that the statement speaks of. -/
import Derived.Test.YtanlnfcjdjamaaaMMe2
set_option linter.unusedVariables false
set_option linter.unusedSimpArgs false
/- L1 -/
namespace Go.Proofs.Ytanlnfcjdjamaaa.P
open Go.RowKit Go.Proofs.YtanlnfcjdjamaaaW.PrintWords Go.Proofs.YtanlnfcjdjamaaaW.PrintLast Go.Proofs.YtanlnfcjdjamaaaW.PrintMore
def Up (l : List S51) : Prop := l.Pairwise (fun a b => a.f0 < b.f0)
def cntL (l : List S51) (key : Int) : Nat := (l.filter fun p => decide (p.f0 < key)).length
def hasL (l : List S51) (key : Int) : Bool := l.any fun p => p.f0 == key
theorem up_split : ∀ (l : List S51) (key : Int), Up l → ∃ A B, l = A ++ B ∧ (∀ a ∈ A, a.f0 < key) ∧ (∀ b ∈ B, key ≤ b.f0) ∧ Up A ∧ Up B
  | [], _, h => ⟨[], [], rfl, by simp, by simp, h, h⟩
  | x :: r, key, h => by
    have h' := List.pairwise_cons.1 h
    by_cases hx : x.f0 < key
    · obtain ⟨A, B, e, ha, hb, ua, ub⟩ := up_split r key h'.2
      refine ⟨x :: A, B, by rw [e]; rfl, ?_, hb, ?_, ub⟩
      · intro a hm
        rcases List.mem_cons.1 hm with rfl | hm
        · exact hx
        · exact ha a hm
      · exact List.pairwise_cons.2 ⟨fun a hm => h'.1 a (by rw [e]; exact List.mem_append_left _ hm), ua⟩
    · refine ⟨[], x :: r, rfl, by simp, ?_, List.Pairwise.nil, h⟩
      intro b hm
      rcases List.mem_cons.1 hm with rfl | hm
      · omega
      · have := h'.1 b hm
        omega
theorem filter_lt {A B : List S51} {key : Int} (ha : ∀ a ∈ A, a.f0 < key) (hb : ∀ b ∈ B, key ≤ b.f0) : (A ++ B).filter (fun p => decide (p.f0 < key)) = A := by
  rw [List.filter_append, List.filter_eq_self.2 (by simpa using ha), List.filter_eq_nil_iff.2 (by intro b hm; have := hb b hm; simp; omega), List.append_nil]
theorem cnt_split {A B : List S51} {key : Int} (ha : ∀ a ∈ A, a.f0 < key) (hb : ∀ b ∈ B, key ≤ b.f0) : cntL (A ++ B) key = A.length := by unfold cntL; rw [filter_lt ha hb]
theorem behind {B : List S51} {key : Int} (hb : ∀ b ∈ B, key ≤ b.f0) (ub : Up B) : (∃ x B', B = x :: B' ∧ x.f0 = key ∧ ∀ b ∈ B', key < b.f0) ∨ (∀ b ∈ B, key < b.f0) := by
  cases B with
  | nil => exact .inr (by simp)
  | cons x r =>
    have h' := List.pairwise_cons.1 ub
    have hx := hb x (by simp)
    by_cases he : x.f0 = key
    · exact .inl ⟨x, r, rfl, he, fun b hm => by have := h'.1 b hm; omega⟩
    · refine .inr fun b hm => ?_
      rcases List.mem_cons.1 hm with rfl | hm
      · omega
      · have := h'.1 b hm
        omega
theorem has_yes {A B : List S51} {x : S51} {key : Int} (hx : x.f0 = key) : hasL (A ++ x :: B) key = true := by unfold hasL; simp [hx]
theorem has_no {A B : List S51} {key : Int} (ha : ∀ a ∈ A, a.f0 < key) (hb : ∀ b ∈ B, key < b.f0) : hasL (A ++ B) key = false := by
  unfold hasL
  rw [List.any_eq_false]
  intro p hm
  rcases List.mem_append.1 hm with hm | hm
  · have := ha p hm; simp; omega
  · have := hb p hm; simp; omega
def lookL (key : Int) : List S51 → Int × Bool
  | [] => (0, false)
  | x :: r => if x.f0 = key then (x.f1, true) else lookL key r
def withL (key val : Int) : Bool → List S51 → List S51
  | done, [] => if done = false then [⟨key, val⟩] else []
  | done, x :: r => (if done = false ∧ key ≤ x.f0 then [⟨key, val⟩] else []) ++ (if x.f0 = key then [] else [x]) ++ withL key val (done || decide (key ≤ x.f0)) r
theorem look_split {A B : List S51} {key : Int} (ha : ∀ a ∈ A, a.f0 < key) : lookL key (A ++ B) = lookL key B := by
  induction A with
  | nil => rfl
  | cons x r ih =>
    have hx := ha x (by simp)
    rw [List.cons_append, lookL, if_neg (by omega)]
    exact ih (fun a hm => ha a (List.mem_cons_of_mem _ hm))
theorem look_no {B : List S51} {key : Int} (hb : ∀ b ∈ B, key < b.f0) : lookL key B = (0, false) := by
  induction B with
  | nil => rfl
  | cons x r ih =>
    have hx := hb x (by simp)
    rw [lookL, if_neg (by omega)]
    exact ih (fun a hm => hb a (List.mem_cons_of_mem _ hm))
theorem with_true {key val : Int} : ∀ (B : List S51), withL key val true B = B.filter (fun p => decide (p.f0 ≠ key))
  | [] => rfl
  | x :: r => by
    rw [withL, Bool.true_or, with_true r]
    by_cases h : x.f0 = key <;> simp [h]
theorem with_split {A B : List S51} {key val : Int} (ha : ∀ a ∈ A, a.f0 < key) : withL key val false (A ++ B) = A ++ withL key val false B := by
  induction A with
  | nil => rfl
  | cons x r ih =>
    have hx := ha x (by simp)
    rw [List.cons_append, withL, if_neg (by omega), if_neg (by omega), decide_eq_false (by omega), Bool.or_false, ih (fun a hm => ha a (List.mem_cons_of_mem _ hm))]
    rfl
theorem filter_gt {B : List S51} {key : Int} (hb : ∀ b ∈ B, key < b.f0) : B.filter (fun p => decide (p.f0 ≠ key)) = B := List.filter_eq_self.2 (by intro b hm; have := hb b hm; simp; omega)
theorem filter_lt2 {A : List S51} {key : Int} (hb : ∀ b ∈ A, b.f0 < key) : A.filter (fun p => decide (p.f0 ≠ key)) = A := List.filter_eq_self.2 (by intro b hm; have := hb b hm; simp; omega)
theorem with_yes {x : S51} {B : List S51} {key val : Int} (hx : x.f0 = key) (hb : ∀ b ∈ B, key < b.f0) : withL key val false (x :: B) = ⟨key, val⟩ :: B := by
  rw [withL, if_pos ⟨rfl, by omega⟩, if_pos hx, decide_eq_true (by omega), Bool.or_true, with_true, filter_gt hb]
  rfl
theorem with_no {B : List S51} {key val : Int} (hb : ∀ b ∈ B, key < b.f0) : withL key val false B = ⟨key, val⟩ :: B := by
  cases B with
  | nil => rfl
  | cons x r =>
    have hx := hb x (by simp)
    rw [withL, if_pos ⟨rfl, by omega⟩, if_neg (by omega), decide_eq_true (by omega), Bool.or_true, with_true, filter_gt (fun a hm => hb a (List.mem_cons_of_mem _ hm))]
    rfl
def zR : S27 := ⟨false, 0, 0, []⟩
def toldL (l : List S51) (i : Int) : S27 := match (if 0 ≤ i then l[i.toNat]? else none) with | none => zR | some x => ⟨true, x.f0, x.f1, []⟩
def partL (l : List S51) (lo hi : Int) : List S51 := if hi < lo then [] else (l.take (cntL l hi + if hasL l hi then 1 else 0)).drop (cntL l lo)
def valL (l : List S51) (key : Int) : Int := match l[cntL l key]? with | none => 0 | some x => x.f1
def readL (l : List S51) (o : S25) : S27 :=
  if o.f0 = 1 then (if hasL l o.f1 then ⟨true, 0, valL l o.f1, []⟩ else zR)
  else if o.f0 = 5 then toldL l (cntL l o.f1 + if hasL l o.f1 then 1 else 0)
  else if o.f0 = 6 then toldL l ((cntL l o.f1 : Int) - 1)
  else if o.f0 = 7 then toldL l 0
  else if o.f0 = 8 then toldL l ((l.length : Int) - 1)
  else if o.f0 = 9 then ⟨true, 0, 0, partL l o.f1 o.f3⟩
  else zR
def doL (l : List S51) (o : S25) : List S51 × S27 :=
  if o.f0 = 2 ∨ o.f0 = 3 ∨ o.f0 = 4 then
    ((if o.f0 = 4 then (if hasL l o.f1 then l.eraseIdx (cntL l o.f1) else l) else if hasL l o.f1 = false then l.insertIdx (cntL l o.f1) ⟨o.f1, o.f2⟩ else if o.f0 = 2 then l.modify (cntL l o.f1) (fun x => { x with f1 := o.f2 }) else l),
     (if hasL l o.f1 then ⟨decide (o.f0 ≠ 3), 0, valL l o.f1, []⟩ else ⟨decide (o.f0 = 3), 0, 0, []⟩))
  else (l, readL l o)
def insideL (l : List S51) (lo hi : Int) : List S51 := l.filter fun p => decide (lo ≤ p.f0 ∧ p.f0 ≤ hi)
def hitB (o : S25) (r : S27) (x : S51) : Bool := decide ((o.f0 = 7 ∧ r.f0 = false) ∨ (o.f0 = 5 ∧ r.f0 = false ∧ o.f1 < x.f0) ∨ o.f0 = 8 ∨ (o.f0 = 6 ∧ x.f0 < o.f1))
def stepGo (o : S25) : S27 → List S51 → S27
  | r, [] => r
  | r, x :: t => stepGo o (if hitB o r x then ⟨true, x.f0, x.f1, []⟩ else r) t
def step0 (l : List S51) (o : S25) : S27 :=
  if o.f0 = 1 ∨ o.f0 = 2 ∨ o.f0 = 4 then ⟨(lookL o.f1 l).2, 0, (lookL o.f1 l).1, []⟩
  else if o.f0 = 3 then ⟨!(lookL o.f1 l).2, 0, (lookL o.f1 l).1, []⟩
  else if o.f0 = 9 then ⟨true, 0, 0, insideL l o.f1 o.f3⟩
  else zR
def stepL (l : List S51) (o : S25) : List S51 × S27 :=
  ((if o.f0 = 4 then withL o.f1 0 true l else if o.f0 = 2 ∨ (o.f0 = 3 ∧ (lookL o.f1 l).2 = false) then withL o.f1 o.f2 false l else l), stepGo o (step0 l o) l)
theorem step_none {o : S25} (h : o.f0 ≠ 5 ∧ o.f0 ≠ 6 ∧ o.f0 ≠ 7 ∧ o.f0 ≠ 8) : ∀ (l : List S51) (r : S27), stepGo o r l = r
  | [], _ => rfl
  | x :: t, r => by
    have hb : hitB o r x = false := by unfold hitB; simp; omega
    rw [stepGo, hb]
    exact step_none h t r
theorem step_app (o : S25) : ∀ (A B : List S51) (r : S27), stepGo o r (A ++ B) = stepGo o (stepGo o r A) B
  | [], _, _ => rfl
  | x :: t, B, r => by
    rw [List.cons_append, stepGo, stepGo]
    exact step_app o t B _
theorem step_miss {o : S25} : ∀ (l : List S51) (r : S27), (∀ x ∈ l, hitB o r x = false) → stepGo o r l = r
  | [], _, _ => rfl
  | x :: t, r, h => by
    rw [stepGo, h x (by simp)]
    exact step_miss t r (fun y hy => h y (List.mem_cons_of_mem _ hy))
def headR : List S51 → S27
  | [] => zR
  | x :: _ => ⟨true, x.f0, x.f1, []⟩
def optR (r : S27) : Option S51 → S27
  | none => r
  | some x => ⟨true, x.f0, x.f1, []⟩
theorem told_at (A B : List S51) : toldL (A ++ B) (A.length : Int) = headR B := by
  unfold toldL
  rw [if_pos (by omega), Int.toNat_natCast, List.getElem?_append_right (Nat.le_refl _), Nat.sub_self]
  cases B <;> rfl
theorem told_neg (l : List S51) (i : Int) (h : i < 0) : toldL l i = zR := by unfold toldL; rw [if_neg (by omega)]
theorem step_last {o : S25} (A : List S51) (r : S27) (h : ∀ x ∈ A, ∀ r, hitB o r x = true) : stepGo o r A = optR r A.getLast? := by
  rcases List.eq_nil_or_concat A with rfl | ⟨A', x, rfl⟩
  · rfl
  · rw [List.concat_eq_append] at h ⊢
    rw [step_app, stepGo, h x (by simp)]
    simp [stepGo, optR]
theorem told_last (A B : List S51) : toldL (A ++ B) ((A.length : Int) - 1) = optR zR A.getLast? := by
  rcases List.eq_nil_or_concat A with rfl | ⟨A', x, rfl⟩
  · exact told_neg _ _ (by simp)
  · rw [List.concat_eq_append]
    have := told_at A' (x :: B)
    rw [show A' ++ x :: B = (A' ++ [x]) ++ B by simp] at this
    rw [show (((A' ++ [x]).length : Nat) : Int) - 1 = (A'.length : Int) by simp, this]
    simp [headR, optR]
theorem step5 {o : S25} (h5 : o.f0 = 5) (A B : List S51) (ha : ∀ a ∈ A, a.f0 ≤ o.f1) (hb : ∀ b ∈ B, o.f1 < b.f0) : stepGo o zR (A ++ B) = headR B := by
  rw [step_app, step_miss A zR (fun x hx => by have := ha x hx; unfold hitB; simp; omega)]
  cases B with
  | nil => rfl
  | cons x t =>
    have := hb x (by simp)
    rw [stepGo, show hitB o zR x = true by unfold hitB; simp [zR, h5, this]]
    exact step_miss t _ (fun y _ => by unfold hitB; simp; omega)
theorem step7 {o : S25} (h7 : o.f0 = 7) (l : List S51) : stepGo o zR l = toldL l 0 := by
  cases l with
  | nil => rfl
  | cons x t =>
    rw [stepGo, show hitB o zR x = true by unfold hitB; simp [zR, h7]]
    exact step_miss t _ (fun y _ => by unfold hitB; simp; omega)
theorem part_inside (l : List S51) (h : Up l) (lo hi : Int) : partL l lo hi = insideL l lo hi := by
  unfold partL insideL
  by_cases hlt : hi < lo
  · rw [if_pos hlt]
    symm
    rw [List.filter_eq_nil_iff]
    intro p _
    simp
    omega
  rw [if_neg hlt]
  obtain ⟨A, B, rfl, ha, hb, _, ub⟩ := up_split l lo h
  obtain ⟨C, D, rfl, hc, hd, _, ud⟩ := up_split B hi ub
  have hA : A.filter (fun p => decide (lo ≤ p.f0 ∧ p.f0 ≤ hi)) = [] := by
    rw [List.filter_eq_nil_iff]
    intro p hm
    have := ha p hm
    simp
    omega
  have hC : C.filter (fun p => decide (lo ≤ p.f0 ∧ p.f0 ≤ hi)) = C := by
    rw [List.filter_eq_self]
    intro p hm
    have := hc p hm
    have := hb p (List.mem_append_left _ hm)
    simp
    omega
  have hac : ∀ a ∈ A ++ C, a.f0 < hi := by
    intro a hm
    rcases List.mem_append.1 hm with hm | hm
    · have := ha a hm; omega
    · exact hc a hm
  rw [cnt_split ha hb, ← List.append_assoc, cnt_split hac hd, List.filter_append, List.filter_append, hA, hC, List.nil_append]
  rcases behind hd ud with ⟨x, D', rfl, hx, hd'⟩ | hd'
  · rw [has_yes hx, if_pos rfl, show A ++ C ++ x :: D' = (A ++ C ++ [x]) ++ D' by simp, List.take_left' (by simp; omega), List.append_assoc, List.drop_left' rfl, List.filter_cons]
    have hlo : lo ≤ x.f0 := hb x (by simp)
    rw [if_pos (by simp; omega), List.filter_eq_nil_iff.2 (by intro p hm; have := hd' p hm; simp; omega)]
  · rw [has_no hac hd', if_neg (by decide), Nat.add_zero, List.take_left' rfl, List.drop_left' rfl, List.filter_eq_nil_iff.2 (by intro p hm; have := hd' p hm; simp; omega), List.append_nil]
theorem erase_mid (A B : List S51) (x : S51) : (A ++ x :: B).eraseIdx A.length = A ++ B := by
  induction A with
  | nil => rfl
  | cons a r ih => simp [ih]
theorem insert_mid (A B : List S51) (x : S51) : (A ++ B).insertIdx A.length x = A ++ x :: B := by
  induction A with
  | nil => rfl
  | cons a r ih => simp [ih]
theorem modify_mid (A B : List S51) (x : S51) (f : S51 → S51) : (A ++ x :: B).modify A.length f = A ++ f x :: B := by
  induction A with
  | nil => rfl
  | cons a r ih => simp [ih]
theorem val_mid {A B : List S51} {x : S51} {key : Int} (ha : ∀ a ∈ A, a.f0 < key) (hb : ∀ b ∈ x :: B, key ≤ b.f0) : valL (A ++ x :: B) key = x.f1 := by
  unfold valL
  rw [cnt_split ha hb]
  simp
theorem up_mid {A B : List S51} {x : S51} (h1 : Up A) (h2 : Up B) (h3 : ∀ a ∈ A, a.f0 < x.f0) (h4 : ∀ b ∈ B, x.f0 < b.f0) : Up (A ++ x :: B) := by
  unfold Up
  rw [List.pairwise_append]
  refine ⟨h1, List.pairwise_cons.2 ⟨h4, h2⟩, fun a ha b hb => ?_⟩
  rcases List.mem_cons.1 hb with rfl | hb
  · exact h3 a ha
  · have := h3 a ha; have := h4 b hb; omega
theorem up_app {A B : List S51} {key : Int} (h1 : Up A) (h2 : Up B) (h3 : ∀ a ∈ A, a.f0 < key) (h4 : ∀ b ∈ B, key < b.f0) : Up (A ++ B) := by
  unfold Up
  rw [List.pairwise_append]
  exact ⟨h1, h2, fun a ha b hb => by have := h3 a ha; have := h4 b hb; omega⟩
theorem do_step (l : List S51) (h : Up l) (o : S25) (h1 : 1 ≤ o.f0) (h9 : o.f0 ≤ 9) : doL l o = stepL l o ∧ Up (doL l o).1 := by
  obtain ⟨A, B, rfl, ha, hb, ua, ub⟩ := up_split l o.f1 h
  have hk : o.f0 = 1 ∨ o.f0 = 2 ∨ o.f0 = 3 ∨ o.f0 = 4 ∨ o.f0 = 5 ∨ o.f0 = 6 ∨ o.f0 = 7 ∨ o.f0 = 8 ∨ o.f0 = 9 := by omega
  have hcnt := cnt_split ha hb
  have ha' : ∀ a ∈ A, a.f0 ≤ o.f1 := fun a hm => by have := ha a hm; omega
  have h6A : o.f0 = 6 → ∀ x ∈ A, ∀ r, hitB o r x = true := fun h6 x hm r => by have := ha x hm; unfold hitB; simp [h6, this]
  have h6B : o.f0 = 6 → ∀ r, ∀ x ∈ B, hitB o r x = false := fun h6 r x hm => by have := hb x hm; unfold hitB; simp [h6]; omega
  have h8 : o.f0 = 8 → ∀ x ∈ A ++ B, ∀ r, hitB o r x = true := fun h8 x hm r => by unfold hitB; simp [h8]
  have h8t : toldL (A ++ B) (((A ++ B).length : Int) - 1) = optR zR (A ++ B).getLast? := by have := told_last (A ++ B) []; rwa [List.append_nil] at this
  have h8s : o.f0 = 8 → stepGo o zR (A ++ B) = toldL (A ++ B) (((A ++ B).length : Int) - 1) := fun e => by rw [h8t, step_last (A ++ B) zR (h8 e)]
  rcases behind hb ub with ⟨x, B', rfl, hx, hb'⟩ | hb'
  · have ub' : Up B' := (List.pairwise_cons.1 ub).2
    have hh := has_yes (A := A) (B := B') hx
    have hv := val_mid ha hb
    have hlk : lookL o.f1 (A ++ x :: B') = (x.f1, true) := by rw [look_split ha, lookL, if_pos hx]
    have hdel : withL o.f1 0 true (A ++ x :: B') = A ++ B' := by rw [with_true, List.filter_append, filter_lt2 ha, List.filter_cons, if_neg (by simp [hx]), filter_gt hb']
    have hput : withL o.f1 o.f2 false (A ++ x :: B') = A ++ ⟨o.f1, o.f2⟩ :: B' := by rw [with_split ha, with_yes hx hb']
    have hmod : (A ++ x :: B').modify A.length (fun y => { y with f1 := o.f2 }) = A ++ ⟨o.f1, o.f2⟩ :: B' := by rw [modify_mid, ← hx]
    have hup := up_mid (x := ⟨o.f1, o.f2⟩) ua ub' ha hb'
    have hup0 := up_app ua ub' ha hb'
    have h5 : o.f0 = 5 → stepGo o zR (A ++ x :: B') = toldL (A ++ x :: B') ((A.length : Int) + 1) := by
      intro h5
      have e1 := step5 h5 (A ++ [x]) B' (by intro a hm; rcases List.mem_append.1 hm with hm | hm; exact ha' a hm; have := List.mem_singleton.1 hm; subst this; omega) hb'
      have e2 := told_at (A ++ [x]) B'
      rw [show (A ++ [x]) ++ B' = A ++ x :: B' by simp] at e1 e2
      rw [e1, ← e2]
      simp
    rcases hk with e | e | e | e | e | e | e | e | e
    · simp [doL, readL, stepL, step0, e, hh, hv, hlk, step_none, h]
    · simp [doL, stepL, step0, e, hh, hv, hlk, step_none, hcnt, hmod, hput, hup]
    · simp [doL, stepL, step0, e, hh, hv, hlk, step_none, hcnt, h]
    · simp [doL, stepL, step0, e, hh, hv, hlk, step_none, hcnt, erase_mid, hdel, hup0]
    · simp [doL, readL, stepL, step0, e, hh, hcnt, h5 e, h]
    · have := step_app o A (x :: B') zR
      rw [step_miss (x :: B') _ (h6B e _), step_last A zR (h6A e)] at this
      have e3 := told_last A (x :: B')
      simp only [doL, readL, stepL, step0, e, hcnt]
      simp [this, e3, h]
    · simp [doL, readL, stepL, step0, e, step7 e, h]
    · simp [doL, readL, stepL, step0, e, h8s e, h]
    · simp [doL, readL, stepL, step0, e, part_inside _ h, step_none, h]
  · have hh := has_no ha hb'
    have hlk : lookL o.f1 (A ++ B) = (0, false) := by rw [look_split ha, look_no hb']
    have hdel : withL o.f1 0 true (A ++ B) = A ++ B := by rw [with_true, List.filter_append, filter_lt2 ha, filter_gt hb']
    have hput : withL o.f1 o.f2 false (A ++ B) = A ++ ⟨o.f1, o.f2⟩ :: B := by rw [with_split ha, with_no hb']
    have hup := up_mid (x := ⟨o.f1, o.f2⟩) ua ub ha hb'
    have h5 : o.f0 = 5 → stepGo o zR (A ++ B) = toldL (A ++ B) (A.length : Int) := by
      intro h5
      rw [step5 h5 A B ha' hb', told_at]
    rcases hk with e | e | e | e | e | e | e | e | e
    · simp [doL, readL, stepL, step0, e, hh, hlk, step_none, h, zR]
    · simp [doL, stepL, step0, e, hh, hlk, step_none, hcnt, insert_mid, hput, hup]
    · simp [doL, stepL, step0, e, hh, hlk, step_none, hcnt, insert_mid, hput, hup]
    · simp [doL, stepL, step0, e, hh, hlk, step_none, hcnt, hdel, h]
    · simp [doL, readL, stepL, step0, e, hh, hcnt, h5 e, h]
    · have := step_app o A B zR
      rw [step_miss B _ (h6B e _), step_last A zR (h6A e)] at this
      have e3 := told_last A B
      simp only [doL, readL, stepL, step0, e, hcnt]
      simp [this, e3, h]
    · simp [doL, readL, stepL, step0, e, step7 e, h]
    · simp [doL, readL, stepL, step0, e, h8s e, h]
    · simp [doL, readL, stepL, step0, e, part_inside _ h, step_none, h]
end Go.Proofs.Ytanlnfcjdjamaaa.P
