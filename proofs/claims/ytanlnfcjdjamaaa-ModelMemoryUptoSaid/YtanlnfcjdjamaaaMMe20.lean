/- P.modelMemory_holds, part 21 of 37: the contracts of the Go functions that the law calls, its own walk, and its plain law, for every input that the statement speaks of. -/
import Derived.Test.YtanlnfcjdjamaaaMMe11
import Derived.Test.YtanlnfcjdjamaaaMMe6
import Derived.Test.YtanlnfcjdjamaaaMMe2
set_option linter.unusedVariables false
set_option linter.unusedSimpArgs false
/- E13 -/
namespace Go.Proofs.Ytanlnfcjdjamaaa.P
open Go.RowKit Go.Proofs.YtanlnfcjdjamaaaW.PrintWords Go.Proofs.YtanlnfcjdjamaaaW.PrintLast Go.Proofs.YtanlnfcjdjamaaaW.PrintMore
namespace Sym
section
variable {α : Type} (key : α → Int)
def Srt (l : List α) : Prop := l.Pairwise (fun a b => key a ≤ key b)
def mrg : List α → List α → List α
  | [], Y => Y
  | x :: X, [] => x :: X
  | x :: X, y :: Y => if key y < key x then y :: mrg (x :: X) Y else x :: mrg X (y :: Y)
termination_by X Y => X.length + Y.length
theorem mrg_nil (X : List α) : mrg key X [] = X := by cases X <;> simp [mrg]
theorem nil_mrg (Y : List α) : mrg key [] Y = Y := by simp [mrg]
theorem mrg_cons (x y : α) (X Y : List α) : mrg key (x :: X) (y :: Y) = if key y < key x then y :: mrg key (x :: X) Y else x :: mrg key X (y :: Y) := by rw [mrg]
theorem mrg_split : ∀ (n : Nat) (X1 Y1 X2 Y2 : List α), X1.length + Y1.length = n → (∀ y ∈ Y1, ∀ x ∈ X2, key y < key x) → (∀ x ∈ X1, ∀ y ∈ Y2, key x ≤ key y) →
    mrg key (X1 ++ X2) (Y1 ++ Y2) = mrg key X1 Y1 ++ mrg key X2 Y2
  | n, [], [], X2, Y2, _, _, _ => by simp [nil_mrg]
  | n, [], y :: Y1, [], Y2, _, _, _ => by simp [nil_mrg]
  | n + 1, [], y :: Y1, x :: X2, Y2, hn, h1, h2 => by
    rw [List.nil_append, List.cons_append, mrg_cons, if_pos (h1 y (by simp) x (by simp)), nil_mrg]
    have ih := mrg_split n [] Y1 (x :: X2) Y2 (by simpa using hn) (fun a ha b hb => h1 a (by simp [ha]) b hb) (fun a ha => by simp at ha)
    rw [List.nil_append, nil_mrg] at ih
    rw [ih, List.cons_append]
  | n, x :: X1, [], X2, [], _, _, _ => by simp [mrg_nil]
  | n + 1, x :: X1, [], X2, y :: Y2, hn, h1, h2 => by
    rw [List.nil_append, List.cons_append, mrg_cons, if_neg (by have := h2 x (by simp) y (by simp); omega), mrg_nil]
    have ih := mrg_split n X1 [] X2 (y :: Y2) (by simpa using hn) (fun a ha => by simp at ha) (fun a ha b hb => h2 a (by simp [ha]) b hb)
    rw [List.nil_append, mrg_nil] at ih
    rw [ih, List.cons_append]
  | n + 1, x :: X1, y :: Y1, X2, Y2, hn, h1, h2 => by
    rw [List.cons_append, List.cons_append, mrg_cons, mrg_cons]
    simp only [List.length_cons] at hn
    split
    · have ih := mrg_split n (x :: X1) Y1 X2 Y2 (by simp only [List.length_cons]; omega) (fun a ha b hb => h1 a (by simp [ha]) b hb) h2
      rw [List.cons_append] at ih
      rw [ih, List.cons_append]
    · have ih := mrg_split n X1 (y :: Y1) X2 Y2 (by simp only [List.length_cons]; omega) h1 (fun a ha b hb => h2 a (by simp [ha]) b hb)
      rw [List.cons_append] at ih
      rw [ih, List.cons_append]
theorem mrg_length : ∀ (n : Nat) (X Y : List α), X.length + Y.length = n → (mrg key X Y).length = X.length + Y.length
  | n, [], Y, _ => by simp [nil_mrg]
  | n, x :: X, [], _ => by simp [mrg_nil]
  | n + 1, x :: X, y :: Y, hn => by
    simp only [List.length_cons] at hn
    rw [mrg_cons]
    split
    · rw [List.length_cons, mrg_length n (x :: X) Y (by simp only [List.length_cons]; omega)]; simp only [List.length_cons]; omega
    · rw [List.length_cons, mrg_length n X (y :: Y) (by simp only [List.length_cons]; omega)]; simp only [List.length_cons]; omega
theorem mrg_mem : ∀ (n : Nat) (X Y : List α), X.length + Y.length = n → ∀ a, a ∈ mrg key X Y ↔ a ∈ X ∨ a ∈ Y
  | n, [], Y, _, a => by simp [nil_mrg]
  | n, x :: X, [], _, a => by simp [mrg_nil]
  | n + 1, x :: X, y :: Y, hn, a => by
    simp only [List.length_cons] at hn
    rw [mrg_cons]
    split
    · rw [List.mem_cons, mrg_mem n (x :: X) Y (by simp only [List.length_cons]; omega) a]
      simp only [List.mem_cons]
      constructor
      · rintro (h | (h | h) | h) <;> simp [h]
      · rintro ((h | h) | h | h) <;> simp [h]
    · rw [List.mem_cons, mrg_mem n X (y :: Y) (by simp only [List.length_cons]; omega) a]
      simp only [List.mem_cons]
      constructor
      · rintro (h | h | (h | h)) <;> simp [h]
      · rintro ((h | h) | h | h) <;> simp [h]
theorem mrg_srt : ∀ (n : Nat) (X Y : List α), X.length + Y.length = n → Srt key X → Srt key Y → Srt key (mrg key X Y)
  | n, [], Y, _, _, hy => by rw [nil_mrg]; exact hy
  | n, x :: X, [], _, hx, _ => by rw [mrg_nil]; exact hx
  | n + 1, x :: X, y :: Y, hn, hx, hy => by
    simp only [List.length_cons] at hn
    rw [mrg_cons]
    have hx' := List.pairwise_cons.1 hx
    have hy' := List.pairwise_cons.1 hy
    split
    · rename_i hlt
      refine List.pairwise_cons.2 ⟨fun a ha => ?_, mrg_srt n (x :: X) Y (by simp only [List.length_cons]; omega) hx hy'.2⟩
      rcases (mrg_mem key _ _ _ rfl a).1 ha with h | h
      · rcases List.mem_cons.1 h with rfl | h
        · omega
        · have := hx'.1 a h; omega
      · exact hy'.1 a h
    · rename_i hlt
      refine List.pairwise_cons.2 ⟨fun a ha => ?_, mrg_srt n X (y :: Y) (by simp only [List.length_cons]; omega) hx'.2 hy⟩
      rcases (mrg_mem key _ _ _ rfl a).1 ha with h | h
      · exact hx'.1 a h
      · rcases List.mem_cons.1 h with rfl | h
        · omega
        · have := hy'.1 a h; omega
theorem mrg_filter (k : Int) : ∀ (n : Nat) (X Y : List α), X.length + Y.length = n → Srt key X → Srt key Y → (mrg key X Y).filter (fun a => decide (key a = k)) = X.filter (fun a => decide (key a = k)) ++ Y.filter (fun a => decide (key a = k))
  | n, [], Y, _, _, _ => by simp [nil_mrg]
  | n, x :: X, [], _, _, _ => by simp [mrg_nil]
  | n + 1, x :: X, y :: Y, hn, hx, hy => by
    simp only [List.length_cons] at hn
    rw [mrg_cons]
    have hx' := List.pairwise_cons.1 hx
    have hy' := List.pairwise_cons.1 hy
    split
    · rename_i hlt
      rw [List.filter_cons, mrg_filter k n (x :: X) Y (by simp only [List.length_cons]; omega) hx hy'.2]
      by_cases hk : key y = k
      · rw [if_pos (by simpa using hk), show (x :: X).filter (fun a => decide (key a = k)) = [] from List.filter_eq_nil_iff.2 (fun a ha => by
          rcases List.mem_cons.1 ha with rfl | h
          · simp; omega
          · have := hx'.1 a h; simp; omega), List.nil_append, List.nil_append, List.filter_cons, if_pos (by simpa using hk)]
      · rw [if_neg (by simpa using hk), List.filter_cons (x := y), if_neg (by simpa using hk)]
    · rw [List.filter_cons, mrg_filter k n X (y :: Y) (by simp only [List.length_cons]; omega) hx'.2 hy]
      by_cases hk : key x = k
      · rw [if_pos (by simpa using hk), List.filter_cons (x := x), if_pos (by simpa using hk), List.cons_append]
      · rw [if_neg (by simpa using hk), List.filter_cons (x := x), if_neg (by simpa using hk)]
structure St (l out : List α) : Prop where
  srt : Srt key out
  same : ∀ k : Int, out.filter (fun a => decide (key a = k)) = l.filter (fun a => decide (key a = k))
  len : out.length = l.length
theorem St.nil : St key [] [] := ⟨List.Pairwise.nil, fun _ => rfl, rfl⟩
theorem St.one (x : α) : St key [x] [x] := ⟨List.pairwise_singleton _ _, fun _ => rfl, rfl⟩
theorem St.mrg {A B X Y : List α} (h1 : St key A X) (h2 : St key B Y) : St key (A ++ B) (mrg key X Y) :=
  ⟨mrg_srt key _ _ _ rfl h1.srt h2.srt, fun k => by rw [mrg_filter key k _ _ _ rfl h1.srt h2.srt, h1.same k, h2.same k, List.filter_append], by rw [mrg_length key _ _ _ rfl, h1.len, h2.len, List.length_append]⟩
theorem srt_eq : ∀ (X Y : List α), Srt key X → Srt key Y → (∀ k : Int, X.filter (fun a => decide (key a = k)) = Y.filter (fun a => decide (key a = k))) → X = Y
  | [], [], _, _, _ => rfl
  | [], y :: Y, _, _, h => by have := h (key y); simp at this
  | x :: X, [], _, _, h => by have := h (key x); simp at this
  | x :: X, y :: Y, hx, hy, h => by
    have hx' := List.pairwise_cons.1 hx
    have hy' := List.pairwise_cons.1 hy
    have hxy : key x = key y := by
      rcases Int.lt_trichotomy (key x) (key y) with hlt | heq | hgt
      · have := h (key x)
        rw [List.filter_cons, if_pos (by simp), show (y :: Y).filter (fun a => decide (key a = key x)) = [] from List.filter_eq_nil_iff.2 (fun a ha => by
          rcases List.mem_cons.1 ha with rfl | h
          · simp; omega
          · have := hy'.1 a h; simp; omega)] at this
        cases this
      · exact heq
      · have := h (key y)
        rw [List.filter_cons (x := y), if_pos (by simp), show (x :: X).filter (fun a => decide (key a = key y)) = [] from List.filter_eq_nil_iff.2 (fun a ha => by
          rcases List.mem_cons.1 ha with rfl | h
          · simp; omega
          · have := hx'.1 a h; simp; omega)] at this
        cases this
    have h0 := h (key x)
    rw [List.filter_cons, if_pos (by simp), List.filter_cons (x := y), if_pos (by simp [hxy])] at h0
    obtain ⟨rfl, -⟩ := List.cons.inj h0
    refine congrArg (x :: ·) (srt_eq X Y hx'.2 hy'.2 (fun k => ?_))
    have hk := h k
    rw [List.filter_cons, List.filter_cons (x := x)] at hk
    by_cases he : key x = k
    · rw [if_pos (by simpa using he), if_pos (by simpa using he)] at hk
      exact (List.cons.inj hk).2
    · rw [if_neg (by simpa using he), if_neg (by simpa using he)] at hk
      exact hk
theorem St.uniq {l X Y : List α} (h1 : St key l X) (h2 : St key l Y) : X = Y := srt_eq key X Y h1.srt h2.srt (fun k => by rw [h1.same k, h2.same k])
end
end Sym
structure Chg (w w' : World) (ok : Nat → Prop) : Prop where
  os : w'.os = w.os
  tape : w'.tape = w.tape
  output : w'.output = w.output
  size : w.heap.size ≤ w'.heap.size
  block : ∀ k, k < w.heap.size → ¬ ok k → w'.heap[k]? = w.heap[k]?
theorem Chg.refl (w : World) (ok : Nat → Prop) : Chg w w ok := ⟨rfl, rfl, rfl, Nat.le_refl _, fun _ _ _ => rfl⟩
theorem Chg.trans {a b c : World} {ok : Nat → Prop} (h : Chg a b ok) (k : Chg b c ok) : Chg a c ok :=
  ⟨k.os.trans h.os, k.tape.trans h.tape, k.output.trans h.output, Nat.le_trans h.size k.size, fun i hi hn => (k.block i (Nat.lt_of_lt_of_le hi h.size) hn).trans (h.block i hi hn)⟩
theorem Chg.drew {a b : World} {ok : Nat → Prop} (h : Chg a b ok) : Chg a b.drew ok := ⟨h.os, h.tape, h.output, h.size, h.block⟩
theorem Chg.set (W : World) {p : Addr} {ok : Nat → Prop} (hp : ok p.block) (u : Value) : Chg W (W.setCell p u) ok :=
  ⟨rfl, rfl, rfl, by simp [World.setCell], fun k _ hk => Below.heap_setCell _ _ _ _ (fun e => hk (e ▸ hp))⟩
theorem Chg.sets (W : World) {g o : Nat} {ok : Nat → Prop} (hp : ok g) (vs : List Value) : Chg W (W.setCells g o vs) ok := by
  obtain ⟨s1, s2, s3, s4⟩ := setCells_same g vs o W
  exact ⟨s1, s2, s3, by rw [s4]; exact Nat.le_refl _, fun k _ hk => setCells_far vs o k (fun e => hk (e ▸ hp))⟩
theorem Chg.of_below {a b : World} (h : Below a.heap.size a b) (ok : Nat → Prop) : Chg a b ok := ⟨h.os, h.tape, h.output, h.size, fun i hi _ => h.block i hi⟩
theorem Chg.to_below {a b w0 : World} {B : Nat} {ok : Nat → Prop} (h : Chg a b ok) (hb : Below B w0 a) (hB : B ≤ a.heap.size) (hok : ∀ k, ok k → B ≤ k) : Below B w0 b :=
  hb.trans ⟨h.os, h.tape, h.output, h.size, fun k hk => h.block k (by omega) (fun hk2 => by have := hok k hk2; omega)⟩
theorem pc_set : ∀ (l : List S51) (i : Nat) (p : S51), i < l.length → pc (l.set i p) = (pc l).take (i * 2) ++ [.int .i64 p.f0, .int .i64 p.f1] ++ (pc l).drop (i * 2 + 2)
  | [], i, p, h => absurd h (Nat.not_lt_zero _)
  | x :: r, 0, p, _ => by simp [pc_cons]
  | x :: r, i + 1, p, h => by
    rw [List.set_cons_succ, pc_cons, pc_set r i p (by simpa using h), pc_cons, show (i + 1) * 2 = i * 2 + 1 + 1 by omega]
    simp [List.take_succ_cons]
theorem R_pair_set {g n cap base : Nat} {W : World} {ok : Nat → Prop} {l : List S51} (h : Kd.R k51 51 W base ok (.slice (some ⟨g, 0, none⟩) n cap) l) (i : Nat) (hi : i < l.length) (p : S51) :
    Kd.R k51 51 ((W.setCell ⟨g, i * 2, none⟩ (.int .i64 p.f0)).setCell ⟨g, i * 2 + 1, none⟩ (.int .i64 p.f1)) base ok (.slice (some ⟨g, 0, none⟩) n cap) (l.set i p) ∧ Chg W ((W.setCell ⟨g, i * 2, none⟩ (.int .i64 p.f0)).setCell ⟨g, i * 2 + 1, none⟩ (.int .i64 p.f1)) ok := by
  have ho := R_pc h
  obtain ⟨hn, hnc, -⟩ := Kd.R_reads' h
  have hg : ok g := h.1 g (by simp [Value.ownBlock])
  obtain ⟨h1, -⟩ := own_set (n' := n) (ys := l.set i p) (o := i * 2) (vs := [.int .i64 p.f0, .int .i64 p.f1]) ho (by rw [List.length_set]; omega) (by simp only [List.length_cons, List.length_nil]; omega) (fun cur hc hcur => by
    rw [List.length_set, pc_set l i p hi, ← hcur]
    simp only [List.length_cons, List.length_nil, List.take_take, Nat.reduceAdd]
    rw [List.take_append, List.take_of_length_le (by simp [List.length_take]; omega), Nat.min_eq_left (by omega)]
    congr 1
    simp only [List.length_append, List.length_take, List.length_cons, List.length_nil, hc]
    rw [List.drop_take]
    congr 1
    omega) (by rw [List.length_set]; exact hn)
  exact ⟨pc_R h1 h.1, Chg.sets W hg [.int .i64 p.f0, .int .i64 p.f1]⟩
theorem R_pair_at {g n cap base : Nat} {W : World} {ok : Nat → Prop} {l : List S51} (h : Kd.R k51 51 W base ok (.slice (some ⟨g, 0, none⟩) n cap) l) (i : Nat) (p : S51) (hp : l[i]? = some p) :
    W.cell? ⟨g, i * 2, none⟩ = some (.int .i64 p.f0) ∧ W.cell? ⟨g, i * 2 + 1, none⟩ = some (.int .i64 p.f1) ∧ W.frozen? ⟨g, i * 2, none⟩ = false ∧ W.frozen? ⟨g, i * 2 + 1, none⟩ = false := by
  have ho := R_pc h
  obtain ⟨hl, hpe⟩ := List.getElem?_eq_some_iff.1 hp
  obtain ⟨hn, hnc, -⟩ := Kd.R_reads' h
  have h3 : ((pc l).drop (i * 2)).take 2 = [Value.int .i64 p.f0, .int .i64 p.f1] := (reps_pc l).2 i p hp
  have a0 : (pc l)[i * 2]? = some (.int .i64 p.f0) := by
    have := congrArg (fun q => q[0]?) h3
    simpa using this
  have a1 : (pc l)[i * 2 + 1]? = some (.int .i64 p.f1) := by
    have := congrArg (fun q => q[1]?) h3
    simpa using this
  exact ⟨own_at ho _ _ a0, own_at ho _ _ a1, (own_cells ho (i * 2) (by omega)).2, (own_cells ho (i * 2 + 1) (by omega)).2⟩
theorem R_some {base n : Nat} {W : World} {ok : Nat → Prop} {A : Option Addr} {cap : Nat} {l : List S51} (h : Kd.R k51 51 W base ok (.slice A n cap) l) (hp : 0 < l.length) : ∃ g, A = some ⟨g, 0, none⟩ := by
  obtain ⟨g, c, e, -⟩ := Kd.R_form h hp
  injection e with e _ _
  exact ⟨g, e⟩
theorem mid_fst {α : Type} (A B C : List α) (x y : α) : (A ++ x :: B ++ y :: C)[A.length]? = some x := by simp
theorem mid_snd {α : Type} (A B C : List α) (x y : α) : (A ++ x :: B ++ y :: C)[A.length + 1 + B.length]? = some y := by
  rw [List.getElem?_append_right (by simp; omega)]
  simp
  rw [show A.length + 1 + B.length - (A.length + (B.length + 1)) = 0 by omega]
  rfl
theorem set_at {α : Type} (A C : List α) (y z : α) (n : Nat) (hn : n = A.length) : (A ++ y :: C).set n z = A ++ z :: C := by
  subst hn
  rw [List.set_append_right _ _ (Nat.le_refl _), Nat.sub_self, List.set_cons_zero]
theorem swp_up {α : Type} (A B C : List α) (x y : α) : ((A ++ x :: B ++ y :: C).set A.length y).set (A.length + 1 + B.length) x = A ++ y :: B ++ x :: C := by
  rw [List.append_assoc, List.cons_append, set_at A (B ++ y :: C) x y _ rfl, ← List.cons_append, ← List.append_assoc, set_at (A ++ y :: B) C y x _ (by simp; omega)]
theorem swp_down {α : Type} (A B C : List α) (x y : α) : ((A ++ x :: B ++ y :: C).set (A.length + 1 + B.length) x).set A.length y = A ++ y :: B ++ x :: C := by
  rw [List.set_comm _ _ (by omega), swp_up]
theorem swp_up' {α : Type} {A B C : List α} {x y : α} {p q : Nat} (hp : p = A.length) (hq : q = A.length + 1 + B.length) : ((A ++ x :: B ++ y :: C).set p y).set q x = A ++ y :: B ++ x :: C := by
  subst hp; subst hq; exact swp_up A B C x y
theorem swp_down' {α : Type} {A B C : List α} {x y : α} {p q : Nat} (hp : p = A.length) (hq : q = A.length + 1 + B.length) : ((A ++ x :: B ++ y :: C).set q x).set p y = A ++ y :: B ++ x :: C := by
  subst hp; subst hq; exact swp_down A B C x y
theorem wrapN {n : Nat} (h : n < 4611686018427387904) : IntKind.i64.wrap (n : Int) = (n : Int) := by unfold IntKind.wrap; simp [IntKind.bits, IntKind.signed]; omega
theorem wrapA {a b : Nat} (h : a + b < 4611686018427387904) : IntKind.i64.wrap ((a : Int) + (b : Int)) = ((a + b : Nat) : Int) := by rw [show (a : Int) + (b : Int) = ((a + b : Nat) : Int) by omega]; exact wrapN h
theorem wrapS {a b : Nat} (h : b ≤ a) (ha : a < 4611686018427387904) : IntKind.i64.wrap ((a : Int) - (b : Int)) = ((a - b : Nat) : Int) := by rw [show (a : Int) - (b : Int) = ((a - b : Nat) : Int) by omega]; exact wrapN (by omega)
set_option maxHeartbeats 4000000 in
set_option maxRecDepth 100000 in
theorem swapRange_calls (P U M V S : List S51) (hU : U.length = V.length) (A : Option Addr) (N c : Nat) (f : Value) (base : Nat) (ok : Nat → Prop) (w : World) (h : Kd.R k51 51 w base ok (.slice A N c) (P ++ U ++ M ++ V ++ S)) (hN : N < 1000000000) (a b n : Nat) (ha : a = P.length) (hb : b = P.length + U.length + M.length) (hn : n = U.length) :
    Calls Try.prog 65 #[.slice A N c, .int .i64 (a : Nat), .int .i64 (b : Nat), .int .i64 (n : Nat), f] w fun e w' => e = .returned (.tuple #[]) ∧ Kd.R k51 51 w' base ok (.slice A N c) (P ++ V ++ M ++ U ++ S) ∧ Chg w w' ok := by
  have hu51 := Try.underlying51
  have hlen := (Kd.R_reads' h).1
  simp only [List.length_append] at hlen
  have H0 := Aside0.mk h
  have HE := Aside0.mk (And.intro ha (And.intro hb (And.intro hn hlen)))
  clear h ha hb hn hlen
  go_enter Try.func65, Try.ntmps65
  go_wp2
  go_loopw [10] (fun v10 W => ∃ (i : Nat), v10 = .int .i64 (i : Int) ∧ i ≤ n ∧ Aside0 (Kd.R k51 51 W base ok (.slice A N c) (P ++ V.take i ++ U.drop i ++ M ++ U.take i ++ V.drop i ++ S)) ∧ Aside0 (Chg w W ok)) (fun v10 _ => n - (intOf v10).toNat)
  case atStart => exact ⟨0, rfl, Nat.zero_le _, ⟨by simpa using H0.out⟩, ⟨Chg.refl _ _⟩⟩
  case round =>
    clear H0
    obtain ⟨i, rfl, hi, HR, HC⟩ := hrel
    obtain ⟨ha, hb, hn, hlen⟩ := HE.out
    by_cases hlt : i < n
    · have hu : U.drop i = U[i]'(by omega) :: U.drop (i + 1) := List.drop_eq_getElem_cons (by omega)
      have hv : V.drop i = V[i]'(by omega) :: V.drop (i + 1) := List.drop_eq_getElem_cons (by omega)
      obtain ⟨x, hx⟩ : ∃ x, x = U[i]'(by omega) := ⟨_, rfl⟩
      obtain ⟨y, hy⟩ : ∃ y, y = V[i]'(by omega) := ⟨_, rfl⟩
      rw [← hx] at hu
      rw [← hy] at hv
      have hut : U.take (i + 1) = U.take i ++ [x] := by rw [List.take_succ_eq_append_getElem (by omega), hx]
      have hvt : V.take (i + 1) = V.take i ++ [y] := by rw [List.take_succ_eq_append_getElem (by omega), hy]
      obtain ⟨g, rfl⟩ := R_some HR.out (by rw [hu]; simp; omega)
      have hform : P ++ V.take i ++ U.drop i ++ M ++ U.take i ++ V.drop i ++ S = (P ++ V.take i) ++ x :: (U.drop (i + 1) ++ M ++ U.take i) ++ y :: (V.drop (i + 1) ++ S) := by rw [hu, hv]; simp
      have HR1 := HR.out
      rw [hform] at HR1
      have hlA : (P ++ V.take i).length = a + i := by simp; omega
      have hlB : (P ++ V.take i).length + 1 + (U.drop (i + 1) ++ M ++ U.take i).length = b + i := by simp; omega
      have p0 := mid_fst (P ++ V.take i) (U.drop (i + 1) ++ M ++ U.take i) (V.drop (i + 1) ++ S) x y
      have p1 := mid_snd (P ++ V.take i) (U.drop (i + 1) ++ M ++ U.take i) (V.drop (i + 1) ++ S) x y
      rw [hlA] at p0
      rw [hlB] at p1
      obtain ⟨x0, x1, x2, x3⟩ := R_pair_at HR1 (a + i) x p0
      obtain ⟨y0, y1, y2, y3⟩ := R_pair_at HR1 (b + i) y p1
      have s1 := R_pair_set HR1 (a + i) (by have := (List.getElem?_eq_some_iff.1 p0).1; exact this) y
      have s2 := R_pair_set s1.1 (b + i) (by rw [List.length_set]; exact (List.getElem?_eq_some_iff.1 p1).1) x
      have s3 := swp_up' (A := P ++ V.take i) (B := U.drop (i + 1) ++ M ++ U.take i) (C := V.drop (i + 1) ++ S) (x := x) (y := y) hlA.symm hlB.symm
      have s4 := s2.1
      rw [s3, show (P ++ V.take i) ++ y :: (U.drop (i + 1) ++ M ++ U.take i) ++ x :: (V.drop (i + 1) ++ S) = P ++ V.take (i + 1) ++ U.drop (i + 1) ++ M ++ U.take (i + 1) ++ V.drop (i + 1) ++ S by rw [hut, hvt]; simp] at s4
      have HS := Aside0.mk s4
      have HC2 := Aside0.mk ((HC.out.trans s1.2).trans s2.2)
      have e1 := wrapA (a := a) (b := i) (by omega)
      have e2 := wrapA (a := b) (b := i) (by omega)
      have b1 : (0 : Int) ≤ ((a + i : Nat) : Int) := by omega
      have b2 : ((a + i : Nat) : Int) < (N : Int) := by omega
      have b3 : (0 : Int) ≤ ((b + i : Nat) : Int) := by omega
      have b4 : ((b + i : Nat) : Int) < (N : Int) := by omega
      have hne : b + i ≠ a + i := by omega
      have hltI : (i : Int) < (n : Int) := by omega
      clear hu hv hx hy hut hvt hform HR1 hlA hlB p0 p1 s1 s2 s3 s4 HR HC ha hb hn hlen
      go_wp2
      go_region
      go_wp2
      go_roundw
      case rel => exact ⟨i + 1, by go_num, by omega, ⟨Kd.R_drew HS.out⟩, ⟨HC2.out.drew⟩⟩
      case measure => simp [intOf]; omega
    · obtain rfl : i = n := by omega
      clear ha hb hn hlen
      go_wp2
      (try simp only [Exit.inBlock, Exit.then])
      refine bodyPost_end (results_none rfl _ _ _) rfl ?_
      refine ⟨rfl, ?_, HC.out⟩
      obtain ⟨ha, hb, hn, hlen⟩ := HE.out
      have := HR.out
      rw [hn, List.take_length, List.drop_length, hU, List.take_length, List.drop_length] at this
      simpa using this
theorem swapRange_int (P U M V S : List S51) (hU : U.length = V.length) (A : Option Addr) (N c : Nat) (f : Value) (base : Nat) (ok : Nat → Prop) (w : World) (h : Kd.R k51 51 w base ok (.slice A N c) (P ++ U ++ M ++ V ++ S)) (hN : N < 1000000000) (xa xb xn : Int) (ha : xa = ((P.length : Nat) : Int)) (hb : xb = ((P.length + U.length + M.length : Nat) : Int)) (hn : xn = ((U.length : Nat) : Int)) :
    Calls Try.prog 65 #[.slice A N c, .int .i64 xa, .int .i64 xb, .int .i64 xn, f] w fun e w' => e = .returned (.tuple #[]) ∧ Kd.R k51 51 w' base ok (.slice A N c) (P ++ V ++ M ++ U ++ S) ∧ Chg w w' ok := by
  subst ha; subst hb; subst hn
  exact swapRange_calls P U M V S hU A N c f base ok w h hN _ _ _ rfl rfl rfl
structure RotI (P V U S : List S51) (m i j : Nat) (l P' U' V' S' : List S51) : Prop where
  hl : l = P' ++ U' ++ V' ++ S'
  hi : i = U'.length
  hj : j = V'.length
  i0 : 0 < i
  j0 : 0 < j
  hm : P'.length + U'.length = m
  ht : P' ++ V' ++ U' ++ S' = P ++ V ++ U ++ S
set_option maxHeartbeats 4000000 in
set_option maxRecDepth 100000 in
theorem rotate_calls (P U V S : List S51) (hU : 0 < U.length) (hV : 0 < V.length) (A : Option Addr) (N c : Nat) (f : Value) (base : Nat) (ok : Nat → Prop) (w : World) (h : Kd.R k51 51 w base ok (.slice A N c) (P ++ U ++ V ++ S)) (hN : N < 1000000000) (a m b : Nat) (ha : a = P.length) (hm : m = P.length + U.length) (hb : b = P.length + U.length + V.length) :
    Calls Try.prog 63 #[.slice A N c, .int .i64 (a : Nat), .int .i64 (m : Nat), .int .i64 (b : Nat), f] w fun e w' => e = .returned (.tuple #[]) ∧ Kd.R k51 51 w' base ok (.slice A N c) (P ++ V ++ U ++ S) ∧ Chg w w' ok := by
  have hlen := (Kd.R_reads' h).1
  simp only [List.length_append] at hlen
  have H0 := Aside0.mk h
  have HE := Aside0.mk (And.intro ha (And.intro hm (And.intro hb hlen)))
  have hmb : m < 1000000000 ∧ b < 1000000000 ∧ a < m ∧ m < b := by omega
  obtain ⟨hm9, hb9, ham, hmb⟩ := hmb
  have e1 : IntKind.i64.wrap ((m : Int) - (a : Int)) = (m : Int) - (a : Int) := by rw [wrapS (by omega) (by omega)]; omega
  have e2 : IntKind.i64.wrap ((b : Int) - (m : Int)) = (b : Int) - (m : Int) := by rw [wrapS (by omega) (by omega)]; omega
  clear h ha hm hb hlen
  go_enter Try.func63, Try.ntmps63
  go_wp2
  clear e1 e2
  go_loopw [10, 11] (fun v10 v11 W => ∃ (i j : Nat) (l P' U' V' S' : List S51), v10 = .int .i64 (i : Int) ∧ v11 = .int .i64 (j : Int) ∧ Aside0 (RotI P V U S m i j l P' U' V' S') ∧ Aside0 (Kd.R k51 51 W base ok (.slice A N c) l) ∧ Aside0 (Chg w W ok)) (fun v10 v11 _ => (intOf v10).toNat + (intOf v11).toNat)
  case atStart =>
    obtain ⟨ha, hm, hb, hlen⟩ := HE.out
    exact ⟨U.length, V.length, _, P, U, V, S, by rw [show ((U.length : Nat) : Int) = (m : Int) - (a : Int) by omega], by rw [show ((V.length : Nat) : Int) = (b : Int) - (m : Int) by omega], ⟨rfl, rfl, rfl, hU, hV, hm.symm, rfl⟩, H0, ⟨Chg.refl _ _⟩⟩
  case round =>
    clear H0
    obtain ⟨i, j, l, P', U', V', S', rfl, rfl, HI, HR, HC⟩ := hrel
    have HRl : Aside0 (Kd.R k51 51 wr base ok (.slice A N c) (P' ++ U' ++ V' ++ S')) := ⟨by rw [← HI.out.hl]; exact HR.out⟩
    clear HR
    have hl9 := (Kd.R_reads' HRl.out).1
    simp only [List.length_append] at hl9
    have hi := HI.out.hi
    have hj := HI.out.hj
    have hi0 := HI.out.i0
    have hj0 := HI.out.j0
    have hm := HI.out.hm
    have hn9 : i ≤ m ∧ m + j ≤ N := by omega
    obtain ⟨him, hmj⟩ := hn9
    have e1 : IntKind.i64.wrap ((m : Int) - (i : Int)) = (m : Int) - (i : Int) := by rw [wrapS (by omega) (by omega)]; omega
    have e2 : IntKind.i64.wrap ((m : Int) + (j : Int)) = (m : Int) + (j : Int) := by rw [wrapA (by omega)]; omega
    rcases Nat.lt_trichotomy i j with hlt | heq | hgt
    · have e3 : IntKind.i64.wrap ((m : Int) + (j : Int) - (i : Int)) = (m : Int) + (j : Int) - (i : Int) := by rw [show (m : Int) + (j : Int) = ((m + j : Nat) : Int) by omega, wrapS (by omega) (by omega)]; omega
      have e4 : IntKind.i64.wrap ((j : Int) - (i : Int)) = (j : Int) - (i : Int) := by rw [wrapS (by omega) (by omega)]; omega
      have c1 : ((i : Int) = (j : Int)) = False := by simp; omega
      have c2 : ¬ ((j : Int) < (i : Int)) := by omega
      have hv : V' = V'.take (j - i) ++ V'.drop (j - i) := (List.take_append_drop _ _).symm
      obtain ⟨V1, hV1⟩ : ∃ V1, V1 = V'.take (j - i) := ⟨_, rfl⟩
      obtain ⟨V2, hV2⟩ : ∃ V2, V2 = V'.drop (j - i) := ⟨_, rfl⟩
      have h1 : V1.length = j - i := by rw [hV1, List.length_take]; omega
      have h2 : V2.length = i := by rw [hV2, List.length_drop]; omega
      rw [← hV1, ← hV2] at hv
      have HS := Aside0.mk (swapRange_int P' U' V1 V2 S' (by omega) A N c f base ok wr (by have := HRl.out; rw [hv] at this; simpa using this) hN ((m : Int) - (i : Int)) ((m : Int) + (j : Int) - (i : Int)) (i : Int) (by omega) (by omega) (by omega))
      have HI2 : Aside0 (RotI P V U S m i (j - i) (P' ++ V2 ++ V1 ++ U' ++ S') P' V2 V1 (U' ++ S')) := ⟨by simp, h2.symm, h1.symm, hi0, by omega, by omega, by rw [← HI.out.ht, hv]; simp⟩
      clear hv hV1 hV2 h1 h2 hi hj hm hl9 HI
      go_wp2_with (go_at_call 65; (with_reducible refine HS.out.mono ?_); rintro e w2 ⟨rfl, hR2, hC2⟩; have HR2 := Aside0.mk hR2; have HC2 := Aside0.mk (HC.out.trans hC2); clear hR2 hC2)
      go_roundw
      case rel => exact ⟨i, j - i, _, _, _, _, _, rfl, by go_num, HI2, HR2, HC2⟩
      case measure => simp [intOf]; omega
    · have c1 : (i : Int) = (j : Int) := by omega
      have HS := Aside0.mk (swapRange_int P' U' [] V' S' (by omega) A N c f base ok wr (by simpa using HRl.out) hN ((m : Int) - (i : Int)) (m : Int) (i : Int) (by omega) (by simp; omega) (by omega))
      have HT : Aside0 (P' ++ V' ++ [] ++ U' ++ S' = P ++ V ++ U ++ S) := ⟨by rw [← HI.out.ht]; simp⟩
      subst heq
      clear hi hj hm hl9 HI c1
      go_wp2_with (go_at_call 65; (with_reducible refine HS.out.mono ?_); rintro e w2 ⟨rfl, hR2, hC2⟩; rw [HT.out] at hR2; have HR2 := Aside0.mk hR2; have HC2 := Aside0.mk (HC.out.trans hC2); clear hR2 hC2)
      (try simp only [Exit.inBlock, Exit.then])
      refine bodyPost_end (results_none rfl _ _ _) rfl ?_
      exact ⟨rfl, HR2.out, HC2.out⟩
    · have e4 : IntKind.i64.wrap ((i : Int) - (j : Int)) = (i : Int) - (j : Int) := by rw [wrapS (by omega) (by omega)]; omega
      have c1 : ((i : Int) = (j : Int)) = False := by simp; omega
      have c2 : (j : Int) < (i : Int) := by omega
      have hv : U' = U'.take j ++ U'.drop j := (List.take_append_drop _ _).symm
      obtain ⟨U1, hU1⟩ : ∃ U1, U1 = U'.take j := ⟨_, rfl⟩
      obtain ⟨U2, hU2⟩ : ∃ U2, U2 = U'.drop j := ⟨_, rfl⟩
      have h1 : U1.length = j := by rw [hU1, List.length_take]; omega
      have h2 : U2.length = i - j := by rw [hU2, List.length_drop]; omega
      rw [← hU1, ← hU2] at hv
      have HS := Aside0.mk (swapRange_int P' U1 U2 V' S' (by omega) A N c f base ok wr (by have := HRl.out; rw [hv] at this; simpa using this) hN ((m : Int) - (i : Int)) (m : Int) (j : Int) (by omega) (by omega) (by omega))
      have HI2 : Aside0 (RotI P V U S m (i - j) j (P' ++ V' ++ U2 ++ U1 ++ S') (P' ++ V') U2 U1 S') := ⟨by simp, h2.symm, h1.symm, by omega, hj0, by simp; omega, by rw [← HI.out.ht, hv]; simp⟩
      clear hv hU1 hU2 h1 h2 hi hj hm hl9 HI
      go_wp2_with (go_at_call 65; (with_reducible refine HS.out.mono ?_); rintro e w2 ⟨rfl, hR2, hC2⟩; have HR2 := Aside0.mk hR2; have HC2 := Aside0.mk (HC.out.trans hC2); clear hR2 hC2)
      go_roundw
      case rel => exact ⟨i - j, j, _, _, _, _, _, by go_num, rfl, HI2, HR2, HC2⟩
      case measure => simp [intOf]; omega
def ky (p : S51) : Int := p.f0
theorem mrg_one_right {X1 X2 : List S51} {y : S51} (h1 : ∀ x ∈ X1, ky x ≤ ky y) (h2 : ∀ x ∈ X2, ky y < ky x) : Sym.mrg ky (X1 ++ X2) [y] = X1 ++ y :: X2 := by
  have h := Sym.mrg_split ky _ X1 [] X2 [y] rfl (fun a ha => by simp at ha) (fun x hx z hz => by simp at hz; subst hz; exact h1 x hx)
  have h' := Sym.mrg_split ky _ [] [y] X2 [] rfl (fun a ha x hx => by simp at ha; subst ha; exact h2 x hx) (fun a ha => by simp at ha)
  rw [List.nil_append, Sym.mrg_nil] at h
  rw [List.nil_append, List.append_nil, Sym.nil_mrg, Sym.mrg_nil] at h'
  rw [h, h']
  rfl
theorem mrg_one_left {Y1 Y2 : List S51} {x : S51} (h1 : ∀ y ∈ Y1, ky y < ky x) (h2 : ∀ y ∈ Y2, ky x ≤ ky y) : Sym.mrg ky [x] (Y1 ++ Y2) = Y1 ++ x :: Y2 := by
  have h := Sym.mrg_split ky _ [] Y1 [x] Y2 rfl (fun a ha z hz => by simp at hz; subst hz; exact h1 a ha) (fun a ha => by simp at ha)
  have h' := Sym.mrg_split ky _ [x] [] [] Y2 rfl (fun a ha => by simp at ha) (fun z hz y hy => by simp at hz; subst hz; exact h2 y hy)
  rw [List.nil_append, Sym.nil_mrg] at h
  rw [List.nil_append, List.append_nil, Sym.mrg_nil, Sym.nil_mrg] at h'
  rw [h, h']
  rfl
structure InsI (P X T S : List S51) (y : S51) (a j : Nat) (l X1 X2 : List S51) : Prop where
  hx : X = X1 ++ X2
  hj : j = a + X1.length
  hl : l = P ++ X1 ++ y :: X2 ++ T ++ S
  hb : ∀ x ∈ X2, ky y < ky x
theorem ins_done {P M X T S : List S51} {y : S51} {a d j : Nat} {l X1 X2 : List S51} (h : InsI P X T S y a j l X1 X2) (h1 : ∀ x ∈ X1, ky x ≤ ky y) (hst : Sym.St ky (M.take d) X) (htk : M.take (d + 1) = M.take d ++ [y]) (hT : T = M.drop (d + 1)) :
    Sym.St ky (M.take (d + 1)) (X1 ++ y :: X2) ∧ l = P ++ (X1 ++ y :: X2) ++ M.drop (d + 1) ++ S := by
  refine ⟨?_, by rw [h.hl, hT]; simp⟩
  have := Sym.St.mrg ky hst (Sym.St.one ky y)
  rw [h.hx, mrg_one_right h1 h.hb, ← htk] at this
  exact this
theorem ins_last {X X1 X2 : List S51} {x y : S51} (hx : X = X1 ++ [x] ++ X2) (hs : Sym.Srt ky X) (h : ky x ≤ ky y) : ∀ z ∈ X1 ++ [x], ky z ≤ ky y := by
  intro z hz
  rw [hx] at hs
  have h1 := (List.pairwise_append.1 hs).1
  rcases List.mem_append.1 hz with hz | hz
  · have := (List.pairwise_append.1 h1).2.2 z hz x (by simp)
    omega
  · simp at hz
    subst hz
    exact h
set_option maxHeartbeats 8000000 in
set_option maxRecDepth 100000 in
theorem insertion_calls (P M S : List S51) (A : Option Addr) (N c : Nat) (base : Nat) (ok : Nat → Prop) (w : World) (h : Kd.R k51 51 w base ok (.slice A N c) (P ++ M ++ S)) (hN : N < 1000000000) (xa xb : Int) (hxa : xa = ((P.length : Nat) : Int)) (hxb : xb = ((P.length + M.length : Nat) : Int)) :
    Calls Try.prog 59 #[.slice A N c, .int .i64 xa, .int .i64 xb, .func (.func 43) #[] #[]] w fun e w' => e = .returned (.tuple #[]) ∧ (∃ M', Sym.St ky M M' ∧ Kd.R k51 51 w' base ok (.slice A N c) (P ++ M' ++ S)) ∧ Chg w w' ok := by
  have hu51 := Try.underlying51
  have hlen := (Kd.R_reads' h).1
  simp only [List.length_append] at hlen
  obtain ⟨a, ha⟩ : ∃ a, a = P.length := ⟨_, rfl⟩
  obtain ⟨b, hb⟩ : ∃ b, b = P.length + M.length := ⟨_, rfl⟩
  rw [← ha] at hxa
  rw [← hb] at hxb
  subst hxa; subst hxb
  have H0 := Aside0.mk h
  have HE := Aside0.mk (And.intro ha (And.intro hb hlen))
  have e1 : IntKind.i64.wrap ((a : Int) + 1) = ((a + 1 : Nat) : Int) := by rw [show (a : Int) + 1 = ((a + 1 : Nat) : Int) by omega]; exact wrapN (by omega)
  clear h ha hb hlen
  go_enter Try.func59, Try.ntmps59
  go_wp2
  clear e1
  go_loopw [8] (fun v8 W => ∃ (d i : Nat) (X l : List S51), v8 = .int .i64 (i : Int) ∧ Aside0 (i = a + d ∧ 1 ≤ d ∧ (d ≤ 1 ∨ d ≤ M.length) ∧ Sym.St ky (M.take d) X ∧ l = P ++ X ++ M.drop d ++ S) ∧ Aside0 (Kd.R k51 51 W base ok (.slice A N c) l) ∧ Aside0 (Chg w W ok)) (fun v8 _ => b + 1 - (intOf v8).toNat)
  case atStart =>
    refine ⟨1, a + 1, M.take 1, P ++ M ++ S, by first | rfl | (simp; done), ⟨rfl, Nat.le_refl _, .inl (Nat.le_refl _), ?_, by rw [List.append_assoc P (M.take 1), List.take_append_drop]⟩, H0, ⟨Chg.refl _ _⟩⟩
    rcases M with _ | ⟨x, r⟩
    · exact Sym.St.nil ky
    · exact Sym.St.one ky x
  case round =>
    clear H0
    obtain ⟨d, i, X, l, rfl, HI, HR, HC⟩ := hrel
    obtain ⟨ha, hb, hlen⟩ := HE.out
    obtain ⟨hi, hd1, hd2, hst, hl⟩ := HI.out
    by_cases hlt : i < b
    · have hdm : d < M.length := by omega
      obtain ⟨y, hy⟩ : ∃ y, y = M[d] := ⟨_, rfl⟩
      have hdr : M.drop d = y :: M.drop (d + 1) := by rw [List.drop_eq_getElem_cons hdm, hy]
      have htk : M.take (d + 1) = M.take d ++ [y] := by rw [List.take_succ_eq_append_getElem hdm, hy]
      have hxl : X.length = d := by rw [hst.len, List.length_take]; omega
      obtain ⟨T, hT⟩ : ∃ T, T = M.drop (d + 1) := ⟨_, rfl⟩
      rw [← hT] at hdr
      have HS := Aside0.mk (show InsI P X T S y a i l X [] from ⟨by simp, by omega, by rw [hl, hdr]; simp, fun x hx => by simp at hx⟩)
      have HST := Aside0.mk hst
      have HTK := Aside0.mk (And.intro htk (And.intro hT (And.intro hd1 (And.intro hdm (And.intro hxl hi)))))
      have hib : i < 1000000000 := by omega
      have hia : a ≤ i := by omega
      clear hy hdr htk hxl hT hl hst hd1 hd2 hi HI ha hb hlen
      go_wp2
      go_loopw [9] (fun v9 W => ∃ (j : Nat) (l X1 X2 : List S51), v9 = .int .i64 (j : Int) ∧ a ≤ j ∧ j ≤ i ∧ Aside0 (InsI P X T S y a j l X1 X2) ∧ Aside0 (Kd.R k51 51 W base ok (.slice A N c) l) ∧ Aside0 (Chg w W ok)) (fun v9 _ => (intOf v9).toNat)
      case atStart => exact ⟨i, l, X, [], rfl, hia, Nat.le_refl _, HS, HR, HC⟩
      case round =>
        clear HS HR HC
        obtain ⟨j, l, X1, X2, rfl, haj, hji, HS, HR, HC⟩ := hrel
        obtain ⟨hsx, hsj, hsl, hsb⟩ := HS.out
        obtain ⟨ha, hb, hlen⟩ := HE.out
        rcases List.eq_nil_or_concat X1 with rfl | ⟨X1', x, hcc⟩
        · obtain rfl : j = a := by simpa using hsj
          clear hsx hsj hsl hsb ha hb hlen haj
          go_wp2
          go_region
          go_wp2
          go_roundw
          case rel =>
            obtain ⟨htk, hT, hd1, hdm, hxl, hi⟩ := HTK.out
            obtain ⟨k1, k2⟩ := ins_done HS.out (fun x hx => by simp at hx) HST.out htk hT
            exact ⟨d + 1, i + 1, _, l, by go_num, ⟨by omega, by omega, .inr (by omega), k1, k2⟩, ⟨Kd.R_drew HR.out⟩, ⟨HC.out.drew⟩⟩
          case measure => simp [intOf]; omega
        · rw [List.concat_eq_append] at hcc
          subst hcc
          obtain ⟨q, hq⟩ : ∃ q, q = a + X1'.length := ⟨_, rfl⟩
          have hjq : j = q + 1 := by simp at hsj; omega
          have hform : l = (P ++ X1') ++ x :: [] ++ y :: (X2 ++ T ++ S) := by rw [hsl]; simp
          have HRl := HR.out
          rw [hform] at HRl
          have hlA : q = (P ++ X1').length := by simp; omega
          have hlB : j = (P ++ X1').length + 1 + ([] : List S51).length := by simp; omega
          have p0 := mid_fst (P ++ X1') [] (X2 ++ T ++ S) x y
          have p1 := mid_snd (P ++ X1') [] (X2 ++ T ++ S) x y
          rw [← hlA] at p0
          rw [← hlB] at p1
          have hNl := (Kd.R_reads' HRl).1
          have hjN := (List.getElem?_eq_some_iff.1 p1).1
          obtain ⟨g, rfl⟩ := R_some HRl (by simp; omega)
          obtain ⟨x0, x1, -, -⟩ := R_pair_at HRl q x p0
          obtain ⟨y0, y1, -, -⟩ := R_pair_at HRl j y p1
          have e1 : IntKind.i64.wrap ((j : Int) - 1) = (q : Int) := by rw [show (j : Int) - 1 = (q : Int) by omega]; exact wrapN (by omega)
          have b1 : (0 : Int) ≤ (j : Int) := by omega
          have b2 : (j : Int) < (N : Int) := by omega
          have b3 : (0 : Int) ≤ (q : Int) := by omega
          have b4 : (q : Int) < (N : Int) := by omega
          have hja : a < j := by omega
          have hne : q ≠ j := by omega
          have hne2 : j ≠ q := by omega
          have hqi : a ≤ q ∧ q ≤ i := by omega
          have HRF := Aside0.mk HRl
          have HP0 := Aside0.mk (And.intro p0 (And.intro p1 (And.intro hlA (And.intro hlB (And.intro hqi hjq)))))
          have HQ := Aside0.mk hq
          have HSX := Aside0.mk hsx
          clear hq hjq hform HRl hlA hlB p0 p1 hNl hjN hsx hsj hsl hsb ha hb hlen hqi HR
          by_cases hk : y.f0 < x.f0
          · have hcm : cmpI y.f0 x.f0 = -1 := by unfold cmpI; rw [if_pos hk]
            have HCM := Aside0.mk hcm
            have HK := Aside0.mk hk
            clear hcm hk
            go_wp2
            go_region_held3 (fun W' => W'.cell? ⟨g, j * 2, none⟩ = some (.int .i64 y.f0) ∧ W'.cell? ⟨g, j * 2 + 1, none⟩ = some (.int .i64 y.f1) ∧ W'.cell? ⟨g, q * 2, none⟩ = some (.int .i64 x.f0) ∧ W'.cell? ⟨g, q * 2 + 1, none⟩ = some (.int .i64 x.f1)) (first | exact ⟨y0, y1, x0, x1⟩ | exact ⟨y2, y3, x2, x3⟩)
              (first | (go_at_call 43; (with_reducible refine (model_byKey.calls y.f0 y.f1 x.f0 x.f1 _ _ (byKey_val _ _ _ _)).mono ?_); rintro e w2 ⟨rfl, hb2⟩; rw [HCM.out]; have HR2 := Aside0.mk (Kd.R_below (Kd.R_drew HRF.out) hb2); have HC2 := Aside0.mk (HC.out.drew.trans (Chg.of_below hb2 ok)); obtain ⟨x2, x3, x4, x5⟩ := R_pair_at HR2.out q x HP0.out.1; obtain ⟨y2, y3, y4, y5⟩ := R_pair_at HR2.out j y HP0.out.2.1; clear hb2))
            clear x0 x1 y0 y1
            have HK2 := HK
            have s1 := R_pair_set HR2.out j (by have := (List.getElem?_eq_some_iff.1 HP0.out.2.1).1; exact this) x
            have s2 := R_pair_set s1.1 q (by rw [List.length_set]; exact (List.getElem?_eq_some_iff.1 HP0.out.1).1) y
            have s4 := s2.1
            rw [swp_down' HP0.out.2.2.1 HP0.out.2.2.2.1] at s4
            have HS2 := Aside0.mk s4
            have HC3 := Aside0.mk ((HC2.out.trans s1.2).trans s2.2)
            clear s1 s2 s4
            go_wp2
            go_region
            go_wp2
            go_roundw
            case rel => exact ⟨q, _, X1', x :: X2, by go_num, HP0.out.2.2.2.2.1.1, HP0.out.2.2.2.2.1.2, ⟨by rw [HSX.out]; simp, HQ.out, by simp, fun z hz => by rcases List.mem_cons.1 hz with rfl | hz; exact HK2.out; exact HS.out.hb z hz⟩, ⟨Kd.R_drew HS2.out⟩, ⟨HC3.out.drew⟩⟩
            case measure => simp [intOf]; have := HP0.out.2.2.2.2.2; omega
          · obtain ⟨cm, hcm⟩ : ∃ cm, cmpI y.f0 x.f0 = cm := ⟨_, rfl⟩
            have hcd : decide (cm < 0) = false := decide_eq_false (by rw [← hcm]; unfold cmpI; rw [if_neg hk]; split <;> omega)
            have HCM := Aside0.mk hcm
            have HK := Aside0.mk hk
            clear hcm hk
            go_wp2
            go_region_held3 (fun W' => W'.cell? ⟨g, j * 2, none⟩ = some (.int .i64 y.f0) ∧ W'.cell? ⟨g, j * 2 + 1, none⟩ = some (.int .i64 y.f1) ∧ W'.cell? ⟨g, q * 2, none⟩ = some (.int .i64 x.f0) ∧ W'.cell? ⟨g, q * 2 + 1, none⟩ = some (.int .i64 x.f1)) (first | exact ⟨y0, y1, x0, x1⟩ | exact ⟨y2, y3, x2, x3⟩)
              (first | (go_at_call 43; (with_reducible refine (model_byKey.calls y.f0 y.f1 x.f0 x.f1 _ _ (byKey_val _ _ _ _)).mono ?_); rintro e w2 ⟨rfl, hb2⟩; rw [HCM.out]; have HR2 := Aside0.mk (Kd.R_below (Kd.R_drew HRF.out) hb2); have HC2 := Aside0.mk (HC.out.drew.trans (Chg.of_below hb2 ok)); obtain ⟨x2, x3, -, -⟩ := R_pair_at HR2.out q x HP0.out.1; obtain ⟨y2, y3, -, -⟩ := R_pair_at HR2.out j y HP0.out.2.1; clear hb2))
            go_wp2
            go_roundw
            case rel =>
              obtain ⟨htk, hT, hd1, hdm, hxl, hi⟩ := HTK.out
              obtain ⟨k1, k2⟩ := ins_done HS.out (ins_last HSX.out HST.out.srt (by have := HK.out; unfold ky; omega)) HST.out htk hT
              exact ⟨d + 1, i + 1, _, l, by go_num, ⟨by omega, by omega, .inr (by omega), k1, k2⟩, ⟨by rw [HS.out.hl]; have := HR2.out; simpa using this⟩, HC2⟩
            case measure => simp [intOf]; omega
    · have hfin : M.length ≤ d := by omega
      have HD := Aside0.mk (And.intro hst (And.intro hl hfin))
      clear hst hl hfin hd1 hd2 hi HI ha hb hlen
      go_wp2
      (try simp only [Exit.inBlock, Exit.then])
      refine bodyPost_end (results_none rfl _ _ _) rfl ?_
      obtain ⟨hst, hl, hfin⟩ := HD.out
      rw [List.take_of_length_le hfin] at hst
      refine ⟨rfl, ⟨X, hst, ?_⟩, HC.out⟩
      have := HR.out
      rw [hl, List.drop_of_length_le hfin] at this
      simpa using this
end Go.Proofs.Ytanlnfcjdjamaaa.P
