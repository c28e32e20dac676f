/- P.weighMemory_holds, part 12 of 28: the contracts of the Go functions that the law calls, its own walk, and its plain law, for every input that the statement speaks of. -/
import Derived.ArgAppend
import Derived.Test.YtmmjkebboonnkaaMMe2
set_option linter.unusedVariables false
set_option linter.unusedSimpArgs false
/- E13 -/
namespace Go.Proofs.Ytmmjkebboonnkaa.P
open Go.RowKit Go.Proofs.YtmmjkebboonnkaaW.PrintWords Go.Proofs.YtmmjkebboonnkaaW.PrintLast Go.Proofs.YtmmjkebboonnkaaW.PrintMore
structure Chg (w w' : World) (ok : Nat → Prop) : Prop where
  os : w'.os = w.os
  tape : w'.tape = w.tape
  output : w'.output = w.output
  size : w.heap.size ≤ w'.heap.size
  block : ∀ k, k < w.heap.size → ¬ ok k → w'.heap[k]? = w.heap[k]?
theorem Chg.refl (w : World) (ok : Nat → Prop) : Chg w w ok := ⟨rfl, rfl, rfl, Nat.le_refl _, fun _ _ _ => rfl⟩
theorem Chg.trans {a b c : World} {ok : Nat → Prop} (h : Chg a b ok) (k : Chg b c ok) : Chg a c ok :=
  ⟨k.os.trans h.os, k.tape.trans h.tape, k.output.trans h.output, Nat.le_trans h.size k.size, fun i hi hn => (k.block i (Nat.lt_of_lt_of_le hi h.size) hn).trans (h.block i hi hn)⟩
theorem Chg.drew {a b : World} {ok : Nat → Prop} (h : Chg a b ok) : Chg a b.drew ok := ⟨h.os, h.tape, h.output, h.size, h.block⟩
theorem Chg.set (W : World) {p : Addr} {ok : Nat → Prop} (hp : ok p.block) (u : Value) : Chg W (W.setCell p u) ok :=
  ⟨rfl, rfl, rfl, by simp [World.setCell], fun k _ hk => Below.heap_setCell _ _ _ _ (fun e => hk (e ▸ hp))⟩
theorem Chg.sets (W : World) {g o : Nat} {ok : Nat → Prop} (hp : ok g) (vs : List Value) : Chg W (W.setCells g o vs) ok := by
  obtain ⟨s1, s2, s3, s4⟩ := setCells_same g vs o W
  exact ⟨s1, s2, s3, by rw [s4]; exact Nat.le_refl _, fun k _ hk => setCells_far vs o k (fun e => hk (e ▸ hp))⟩
theorem Chg.of_below {a b : World} (h : Below a.heap.size a b) (ok : Nat → Prop) : Chg a b ok := ⟨h.os, h.tape, h.output, h.size, fun i hi _ => h.block i hi⟩
theorem Chg.to_below {a b w0 : World} {B : Nat} {ok : Nat → Prop} (h : Chg a b ok) (hb : Below B w0 a) (hB : B ≤ a.heap.size) (hok : ∀ k, ok k → B ≤ k) : Below B w0 b :=
  hb.trans ⟨h.os, h.tape, h.output, h.size, fun k hk => h.block k (by omega) (fun hk2 => by have := hok k hk2; omega)⟩
theorem int_open {W : World} {base : Nat} {ok : Nat → Prop} {x : Int} {c : List Value} (h : (Kd.int .i64).M W base ok x c) : c = [.int .i64 x] := by first | exact h | exact h.1 | simpa [Kd.int, Kd.scalar] using h
theorem int_mk (W : World) (x : Int) : (Kd.int .i64).K W x [.int .i64 x] := by first | exact rfl | exact ⟨rfl⟩ | simp [Kd.int, Kd.scalar]
theorem Chg.mono {a b : World} {ok ok' : Nat → Prop} (h : Chg a b ok) (ho : ∀ k, ok k → ok' k) : Chg a b ok' := ⟨h.os, h.tape, h.output, h.size, fun i hi hn => h.block i hi (fun hk => hn (ho i hk))⟩
theorem Chg.of_grown {a b : World} (h : a.grownBy b none) (ok : Nat → Prop) : Chg a b ok := ⟨h.os, h.tape, h.output, h.size, fun i hi _ => h.block i hi (by simp)⟩
theorem Chg.R {α : Type} {d : Kd α} {e base : Nat} {w w' : World} {ok ok' : Nat → Prop} {v : Value} {xs : List α} (hc : Chg w w' ok') (h : d.R e w base ok v xs) (hne : ∀ k, ok k → base ≤ k → ¬ ok' k) : d.R e w' base ok v xs :=
  Kd.R_mono (Kd.R_move (Kd.R_bound h) (fun k hk => hc.block k hk.2.2.1 (hne k hk.1 hk.2.1))) (fun _ hk => hk.1)
theorem append_spill {P : Program} {α : Type} (d : Kd α) (w : World) {ops : Array Oper} {rest : List Oper} {o : Oper} {a : Act} {Q : Exit → Act → World → Prop}
    (hg : o.guard = none) (s x : Operand) (t : TypeId) (hop : o.op = Op.call { callee := Callee.builtin Builtin.append, args := #[s, x], argTypes := #[t, t] })
    (e : TypeId) (z : Value) (bytes : Nat) (h1 : P.underlying t = some (.slice e)) (hinfo : (P.info? e).map (fun i => (i.zero, i.size, i.bytes)) = some (some z, d.sz, bytes)) (h6 : z.cells.size = d.sz) (h7 : 0 < d.sz)
    {base : Nat} {ok : Nat → Prop} {v : Value} {xs : List α} (hs : a.eval s = v) (hR : d.R e w base ok v xs)
    (ad : Addr) (m c : Nat) (news : List Value) (hx : a.eval x = .slice (some ad) m c) (hn : news.length = m * d.sz) (hc : ∀ j u, news[j]? = some u → w.cell? (ad.add j) = some u) (h1c : ∀ u ∈ news, u.oneCell' = true)
    (hm : 0 < m) (b1 : xs.length + m ≤ maxLen) (b2 : (xs.length + m) * bytes ≤ 140737488355328) (hbase : base ≤ w.heap.size)
    (h : ∀ v' w', d.R e w' base ok v xs → Chg w w' (fun k => some k = v.ownBlock) → wpList P ops Q rest (a.put o.dst v') w') : wpList P ops Q (o :: rest) a w := by
  obtain ⟨i0, hi, hzz⟩ := Option.map_eq_some_iff.1 hinfo
  simp only [Prod.mk.injEq] at hzz
  obtain ⟨hz0, hz1, hz2⟩ := hzz
  have hR0 := hR
  obtain ⟨h0, inner, hown, hr⟩ := hR
  rcases hown.2 with ⟨rfl, hz⟩ | ⟨g, cap, cur, rfl, hb, hh, hnc, hcm, hcs, ht⟩
  · have hxs : xs = [] := List.eq_nil_of_length_eq_zero hz
    subst hxs
    refine wpList_append_own w hg s x t hop base e i0 z d.sz bytes h1 hi hz0 hz1 hz2 h6 h7 (.slice none 0 0) 0 inner hs hown ad m c news hx hn hc h1c (by simpa using b1) (by simpa using b2) hbase ?_
    intro v' w' _ hgr _
    exact h v' w' (Kd.R_nil d e w' base ok) (Chg.of_grown hgr _)
  · have hil : inner.length = xs.length * d.sz := hr.1
    refine wpList_append_arg w hg s x t hop e i0 z d.sz bytes h1 hi hz0 hz1 hz2 h6 h7 g 0 xs.length cap inner hs hil ?_ ad m c news hx hn hc h1c ?_ b1 b2 ?_ ?_
    · intro j u hj
      rw [Nat.zero_add, blk_cell hh, ← Array.getElem?_toList]
      rw [← ht, List.getElem?_take] at hj
      split at hj
      · exact hj
      · cases hj
    · intro hroom j hj
      refine ⟨?_, blk_frozen hh _⟩
      have hlt : 0 + xs.length * d.sz + j < cur.size := by
        have : (xs.length + m) * d.sz ≤ cap * d.sz := Nat.mul_le_mul_right _ hroom
        rw [Nat.add_mul] at this
        omega
      rw [blk_cell hh, Array.getElem?_eq_getElem hlt]
      rfl
    · intro hroom
      have hfit : 0 + xs.length * d.sz + news.length ≤ cur.size := by
        have : (xs.length + m) * d.sz ≤ cap * d.sz := Nat.mul_le_mul_right _ hroom
        rw [Nat.add_mul] at this
        omega
      obtain ⟨cur', e1, e2, e3⟩ := setCells_row news (0 + xs.length * d.sz) w cur hh hfit
      have hgo : some g = (Value.slice (some ⟨g, 0, none⟩) xs.length cap).ownBlock := by simp [Value.ownBlock]
      refine h _ _ ⟨h0, inner, ⟨by rw [hil], .inr ⟨g, cap, cur', rfl, hb, e1, hnc, hcm, by rw [e2]; exact hcs, ?_⟩⟩, ?_⟩ (Chg.sets w (ok := fun k => some k = (Value.slice (some ⟨g, 0, none⟩) xs.length cap).ownBlock) hgo news)
      · rw [e3, Nat.zero_add]
        have hcl : cur.toList.length = cap * d.sz := by simpa using hcs
        have hle : xs.length * d.sz ≤ cap * d.sz := Nat.mul_le_mul_right _ hnc
        rw [List.append_assoc, List.take_append_of_le_length (by rw [List.length_take]; omega), List.take_take, Nat.min_self, ht]
      · exact hr.imp_ (fun _ _ hp => d.M_move (fun k hk => setCells_far news _ k (fun he => hk.2 (by rw [he]; rfl))) hp)
    · intro _ v' w' _ hgr
      exact h v' w' (Kd.R_grown hR0 hgr (fun _ _ => by simp)) (Chg.of_grown hgr _)
structure Sl where
  A : Option Addr
  n : Nat
  c : Nat
def encSl (s : Sl) : Value := .slice s.A s.n s.c
theorem encSl_one (s : Sl) : (encSl s).oneCell' = true := rfl
def kSl : Kd Sl := Kd.scalar encSl encSl_one
theorem kSl_E : kSl.E = [] := rfl
theorem sl_at {W : World} {A : Option Addr} {n : Nat} {vs : List Sl} (h : kSl.C W A n vs) {i : Nat} {s : Sl} (hi : vs[i]? = some s) : ∃ ad, A = some ad ∧ W.cell? (ad.add i) = some (encSl s) := by
  obtain ⟨hl, hm, hn⟩ := h
  have hlt := (List.getElem?_eq_some_iff.1 hi).1
  obtain ⟨ad, rfl, hc⟩ := hn (by omega)
  refine ⟨ad, rfl, ?_⟩
  obtain ⟨c, hcl, hK, hcc⟩ := hc i s hi
  have e : c = [encSl s] := by first | exact hK | exact hK.1 | simpa [kSl, Kd.scalar] using hK
  subst e
  have := hcc 0 _ rfl
  simpa [kSl, Kd.scalar] using this
def Apart (p q : Sl × List Int) : Prop := ∀ k, (encSl p.1).ownBlock = some k → (encSl q.1).ownBlock ≠ some k
theorem Apart.symm {p q : Sl × List Int} (h : Apart p q) : Apart q p := fun k h1 h2 => h k h2 h1
structure Fam (W : World) (bot top : Nat) (ls : List (Sl × List Int)) : Prop where
  row : ∀ p ∈ ls, Kd.R (Kd.int .i64) 3 W bot (fun k => k < top) (encSl p.1) p.2
  apart : ls.Pairwise Apart
theorem k51_tight {W : World} {base : Nat} {ok : Nat → Prop} {v : Value} {xs : List Int} (h : Kd.R (Kd.int .i64) 3 W base ok v xs) : Kd.R (Kd.int .i64) 3 W base (fun k => some k = v.ownBlock) v xs := Kd.R_tight rfl h
namespace Fam
variable {W W' : World} {bot mid top : Nat} {ls us : List (Sl × List Int)}
theorem nil (W : World) (bot top : Nat) : Fam W bot top [] := ⟨fun _ h => by simp at h, List.Pairwise.nil⟩
theorem raise (h : Fam W bot mid ls) (hm : mid ≤ top) : Fam W bot top ls := ⟨fun p hp => Kd.R_mono (h.row p hp) (fun k hk => Nat.lt_of_lt_of_le hk hm), h.apart⟩
theorem below (h : Fam W bot top ls) (hb : Below W.heap.size W W') : Fam W' bot top ls := ⟨fun p hp => Kd.R_below (h.row p hp) hb, h.apart⟩
theorem one {v : Sl} {l : List Int} {ok : Nat → Prop} (h : Kd.R (Kd.int .i64) 3 W bot ok (encSl v) l) : Fam W bot W.heap.size [(v, l)] :=
  ⟨fun p hp => by rw [List.mem_singleton] at hp; subst hp; exact Kd.R_mono (Kd.R_bound h) (fun _ hk => hk.2.2.1), List.pairwise_singleton _ _⟩
theorem app (h : Fam W bot mid ls) (g : Fam W mid top us) (h1 : bot ≤ mid) (h2 : mid ≤ top) : Fam W bot top (ls ++ us) := by
  refine ⟨fun p hp => ?_, List.pairwise_append.2 ⟨h.apart, g.apart, fun p hp q hq k hk1 hk2 => ?_⟩⟩
  · rcases List.mem_append.1 hp with hp | hp
    · exact Kd.R_mono (h.row p hp) (fun k hk => Nat.lt_of_lt_of_le hk h2)
    · exact Kd.R_lower (g.row p hp) h1
  · have a1 := (h.row p hp).1 k hk1
    have a2 := Kd.R_base (g.row q hq) k hk2
    omega
theorem chg (h : Fam W bot top ls) {ok : Nat → Prop} (hc : Chg W W' ok) (hn : ∀ p ∈ ls, ∀ k, (encSl p.1).ownBlock = some k → ¬ ok k) : Fam W' bot top ls :=
  ⟨fun p hp => Kd.R_mono (hc.R (k51_tight (h.row p hp)) (fun k hk _ => hn p hp k hk.symm)) (fun k hk => (h.row p hp).1 k hk.symm), h.apart⟩
theorem ne (h : Fam W bot top ls) {i j : Nat} (hi : i < ls.length) (hj : j < ls.length) (hij : i ≠ j) : Apart ls[i] ls[j] := by
  rcases Nat.lt_or_gt_of_ne hij with hlt | hlt
  · exact List.pairwise_iff_getElem.1 h.apart i j hi hj hlt
  · exact (List.pairwise_iff_getElem.1 h.apart j i hj hi hlt).symm
theorem set (h : Fam W bot top ls) {i : Nat} (hi : i < ls.length) {ys : List Int} (hc : Chg W W' (fun k => some k = (encSl ls[i].1).ownBlock)) (hR : Kd.R (Kd.int .i64) 3 W' bot (fun k => some k = (encSl ls[i].1).ownBlock) (encSl ls[i].1) ys) : Fam W' bot top (ls.set i (ls[i].1, ys)) := by
  have hrow : Kd.R (Kd.int .i64) 3 W' bot (fun k => k < top) (encSl ls[i].1) ys := Kd.R_mono hR (fun k hk => (h.row _ (List.getElem_mem hi)).1 k hk.symm)
  refine ⟨fun p hp => ?_, ?_⟩
  · obtain ⟨j, hj, rfl⟩ := List.getElem_of_mem hp
    rw [List.length_set] at hj
    rw [List.getElem_set]
    split
    · exact hrow
    · rename_i hne
      have := h.ne hi hj hne
      exact Kd.R_mono (hc.R (k51_tight (h.row _ (List.getElem_mem hj))) (fun k hk _ hk2 => this k hk2.symm hk.symm)) (fun k hk => (h.row _ (List.getElem_mem hj)).1 k hk.symm)
  · refine List.pairwise_iff_getElem.2 fun a b ha hb hab => ?_
    rw [List.length_set] at ha hb
    have hg := List.pairwise_iff_getElem.1 h.apart a b ha hb hab
    have e : ∀ (c : Nat) (hc : c < ls.length), ((ls.set i (ls[i].1, ys))[c]'(by rw [List.length_set]; exact hc)).1 = ls[c].1 := fun c hc => by
      rw [List.getElem_set]
      split
      · rename_i he; subst he; rfl
      · rfl
    intro k h1 h2
    rw [e a ha] at h1
    rw [e b hb] at h2
    exact hg k h1 h2
theorem write (h : Fam W bot top ls) {i : Nat} (hi : i < ls.length) {j : Nat} (hj : j < ls[i].2.length) (x : Int) :
    ∃ g c, ls[i].1 = ⟨some ⟨g, 0, none⟩, ls[i].2.length, c⟩ ∧ bot ≤ g ∧ g < top ∧ g < W.heap.size ∧ (∃ cs, W.heap[g]? = some (.cells cs 3 (0, 0))) ∧ (∃ a, W.cell? ⟨g, j, none⟩ = some (.int .i64 a)) ∧ W.frozen? ⟨g, j, none⟩ = false ∧
      Chg W (W.setCell ⟨g, j, none⟩ (.int .i64 x)) (fun k => k = g) ∧
      Fam (W.setCell ⟨g, j, none⟩ (.int .i64 x)) bot top (ls.set i (ls[i].1, ls[i].2.set j x)) := by
  have hR := k51_tight (h.row _ (List.getElem_mem hi))
  obtain ⟨g, c, he, hb, hl, cells, hc⟩ := Kd.R_form hR (by omega)
  have h1 : ls[i].1 = ⟨some ⟨g, 0, none⟩, ls[i].2.length, c⟩ := by
    rcases hq : ls[i].1 with ⟨A, n, cc⟩
    rw [hq] at he
    unfold encSl at he
    injection he with a b c'
    subst a b c'
    rfl
  have hgt : g < top := (h.row _ (List.getElem_mem hi)).1 g (by rw [he]; simp [Value.ownBlock])
  rw [he] at hR
  obtain ⟨cp, hpl, hpM, hpc, hpf⟩ := Kd.R_elem hR 0 (j : Int) (by omega) (by omega)
  simp only [Int.toNat_natCast, show (Kd.int .i64).sz = 1 from rfl, Nat.mul_one] at hpc hpf hpM
  have hcp := int_open hpM
  subst hcp
  have hseg := (Kd.R_seg hR (j : Int) (by omega) (by omega) (c := _) (seg := [.int .i64 x]) (j := 0) (x' := x) (okp := fun _ => False) hpl (by rw [Int.toNat_natCast, show (Kd.int .i64).sz = 1 from rfl, Nat.mul_one]; exact hpc) (by show 0 + 1 ≤ 1; decide) (int_mk W x) (fun _ hk => hk.elim)).1
  rw [Int.toNat_natCast] at hseg
  have hw : W.setCells g (j * (Kd.int .i64).sz + 0) [.int .i64 x] = W.setCell ⟨g, j, none⟩ (.int .i64 x) := by
    rw [show j * (Kd.int .i64).sz + 0 = j from Nat.mul_one j]; rfl
  rw [hw] at hseg
  have hch : Chg W (W.setCell ⟨g, j, none⟩ (.int .i64 x)) (fun k => k = g) := Chg.set W (ok := fun k => k = g) rfl _
  refine ⟨g, c, h1, hb, hgt, hl, ⟨cells, hc⟩, ⟨_, hpc 0 _ rfl⟩, hpf 0, hch, h.set hi ?_ ?_⟩
  · exact hch.mono (fun k hk => by rw [h1, hk]; simp [encSl, Value.ownBlock])
  · rw [h1]
    show Kd.R (Kd.int .i64) 3 _ bot _ (.slice (some ⟨g, 0, none⟩) ls[i].2.length c) _
    exact Kd.R_mono hseg (fun k hk => hk)
end Fam
theorem sl_chg {W W' : World} {base : Nat} {ok : Nat → Prop} {v : Value} {vs : List Sl} {g : Nat} {cs : Array Value} (h : Kd.R kSl 23 W base ok v vs) (hc : Chg W W' (fun k => k = g)) (hg : W.heap[g]? = some (.cells cs 3 (0, 0))) : Kd.R kSl 23 W' base ok v vs :=
  Kd.R_mono (hc.R (Kd.R_types h hg (by decide)) (fun k hk _ he => hk.2 he)) (fun _ hk => hk.1)
theorem cells_ty {W : World} {k a b : Nat} {cs ds : Array Value} (h1 : W.heap[k]? = some (.cells cs a (0, 0))) (h2 : W.heap[k]? = some (.cells ds b (0, 0))) : a = b := by
  rw [h1] at h2
  injection h2 with h2
  injection h2
theorem Fam.grown {W W' : World} {bot top : Nat} {us : List (Sl × List Int)} {v : Value} (h : Fam W bot top us) (hty : ∀ k, v.ownBlock = some k → ∃ cells, W.heap[k]? = some (.cells cells 23 (0, 0))) (hg : W.grownBy W' v.ownBlock) : Fam W' bot top us :=
  ⟨fun p hp => Kd.R_over' (h.row p hp) hty (by decide) hg, h.apart⟩
theorem Fam.chgT {W W' : World} {bot top t : Nat} {us : List (Sl × List Int)} {v : Value} (h : Fam W bot top us) (hty : ∀ k, v.ownBlock = some k → ∃ cells, W.heap[k]? = some (.cells cells t (0, 0))) (ht : 3 ≠ t) (hc : Chg W W' (fun k => some k = v.ownBlock)) : Fam W' bot top us :=
  h.chg hc (fun p hp k hk hk2 => by
    obtain ⟨cs, hcs⟩ := Kd.R_typed (h.row p hp) k hk
    obtain ⟨ds, hds⟩ := hty k hk2.symm
    exact ht (cells_ty hcs hds))
theorem sl_chgT {W W' : World} {base t : Nat} {ok : Nat → Prop} {u v : Value} {vs : List Sl} (h : Kd.R kSl 23 W base ok u vs) (hty : ∀ k, v.ownBlock = some k → ∃ cells, W.heap[k]? = some (.cells cells t (0, 0))) (ht : 23 ≠ t) (hc : Chg W W' (fun k => some k = v.ownBlock)) : Kd.R kSl 23 W' base ok u vs :=
  Kd.R_mono (hc.R (Kd.R_tight2 kSl_E h) (fun k hk _ hk2 => by
    obtain ⟨cs, hcs⟩ := Kd.R_typed h k hk.1.symm
    obtain ⟨ds, hds⟩ := hty k hk2.symm
    exact ht (cells_ty hcs hds))) (fun _ hk => hk.2)
theorem Fam.spilled {W W' : World} {bot top : Nat} {ls : List (Sl × List Int)} {ok : Nat → Prop} (h : Fam W bot top ls) {i : Nat} (hi : i < ls.length) (hc : Chg W W' (fun k => some k = (encSl ls[i].1).ownBlock)) (hR : Kd.R (Kd.int .i64) 3 W' bot ok (encSl ls[i].1) ls[i].2) : Fam W' bot top ls := by
  have := h.set hi (ys := ls[i].2) hc (k51_tight hR)
  rwa [show ls.set i (ls[i].1, ls[i].2) = ls from List.set_getElem_self hi] at this
theorem map_set_fst (ls : List (Sl × List Int)) {i : Nat} (hi : i < ls.length) (ys : List Int) : (ls.set i (ls[i].1, ys)).map Prod.fst = ls.map Prod.fst := by
  apply List.ext_getElem (by simp)
  intro j h1 h2
  simp only [List.getElem_map, List.getElem_set]
  split
  · rename_i he; subst he; rfl
  · rfl
structure L2 (W0 W : World) (t2 : Nat) (ls : List (Sl × List Int)) (v17 : Value) : Prop where
  bel : Below W0.heap.size W0 W
  sz : W0.heap.size ≤ t2 ∧ t2 ≤ W.heap.size
  fam : Fam W W0.heap.size t2 ls
  arr : Kd.R kSl 23 W W0.heap.size (fun k => k < t2) v17 (ls.map Prod.fst)
namespace L2
variable {W0 W W' : World} {t2 : Nat} {ls : List (Sl × List Int)} {v17 : Value}
theorem below (h : L2 W0 W t2 ls v17) (hb : Below W.heap.size W W') : L2 W0 W' t2 ls v17 :=
  ⟨below_step h.bel hb, ⟨h.sz.1, Nat.le_trans h.sz.2 hb.size⟩, h.fam.below hb, Kd.R_below h.arr hb⟩
theorem drew (h : L2 W0 W t2 ls v17) : L2 W0 W.drew t2 ls v17 := h.below (below_drew1 (Below.refl _ _))
theorem write (h : L2 W0 W t2 ls v17) {i : Nat} (hi : i < ls.length) {j : Nat} (hj : j < ls[i].2.length) (x : Int) :
    ∃ g c, ls[i].1 = ⟨some ⟨g, 0, none⟩, ls[i].2.length, c⟩ ∧ (∃ a, W.cell? ⟨g, j, none⟩ = some (.int .i64 a)) ∧ W.frozen? ⟨g, j, none⟩ = false ∧
      L2 W0 (W.setCell ⟨g, j, none⟩ (.int .i64 x)) t2 (ls.set i (ls[i].1, ls[i].2.set j x)) v17 := by
  obtain ⟨g, c, h1, hb, ht, hs, ⟨cs, hcs⟩, c0, f0, hch, hF⟩ := h.fam.write hi hj x
  refine ⟨g, c, h1, c0, f0, ⟨hch.to_below h.bel h.bel.size (fun k hk => hk ▸ hb), ⟨h.sz.1, Nat.le_trans h.sz.2 hch.size⟩, hF, ?_⟩⟩
  rw [map_set_fst]
  exact sl_chg h.arr hch hcs
theorem spill (h : L2 W0 W t2 ls v17) {i : Nat} (hi : i < ls.length) {ok : Nat → Prop} (hc : Chg W W' (fun k => some k = (encSl ls[i].1).ownBlock)) (hR : Kd.R (Kd.int .i64) 3 W' W0.heap.size ok (encSl ls[i].1) ls[i].2) : L2 W0 W' t2 ls v17 := by
  have hr := h.fam.row _ (List.getElem_mem hi)
  exact ⟨hc.to_below h.bel h.bel.size (fun k hk => Kd.R_base hr k hk.symm), ⟨h.sz.1, Nat.le_trans h.sz.2 hc.size⟩, h.fam.spilled hi hc hR, sl_chgT h.arr (Kd.R_typed hr) (by decide) hc⟩
theorem at_ {g n c : Nat} (h : L2 W0 W t2 ls (.slice (some ⟨g, 0, none⟩) n c)) {i : Nat} (hi : i < ls.length) : W.cell? ⟨g, i, none⟩ = some (encSl ls[i].1) := by
  obtain ⟨ad, e, hc⟩ := sl_at (Kd.R_reads' h.arr).2.2 (i := i) (s := ls[i].1) (by rw [List.getElem?_map, List.getElem?_eq_getElem hi]; rfl)
  injection e with e
  subst e
  rwa [add_plain] at hc
theorem listC (h : L2 W0 W t2 ls v17) {i : Nat} (hi : i < ls.length) : ls[i].1.n = ls[i].2.length ∧ ls[i].2.length ≤ ls[i].1.c ∧ Kd.C (Kd.int .i64) W ls[i].1.A ls[i].2.length ls[i].2 := by
  have h1 := Kd.R_reads' (A := ls[i].1.A) (n := ls[i].1.n) (c := ls[i].1.c) (h.fam.row _ (List.getElem_mem hi))
  exact ⟨h1.1, by omega, h1.2.2⟩
theorem rd (h : L2 W0 W t2 ls v17) {i : Nat} (hi : i < ls.length) {j : Nat} (hj : j < ls[i].2.length) : ∃ g c, ls[i].1 = ⟨some ⟨g, 0, none⟩, ls[i].2.length, c⟩ ∧ W.cell? ⟨g, j, none⟩ = some (.int .i64 ls[i].2[j]) := by
  obtain ⟨g, c, h1, -⟩ := h.write hi hj 0
  have hR := k51_tight (h.fam.row _ (List.getElem_mem hi))
  rw [h1] at hR
  obtain ⟨cp, hpl, hpM, hpc, hpf⟩ := Kd.R_elem (show Kd.R (Kd.int .i64) 3 W W0.heap.size _ (.slice (some ⟨g, 0, none⟩) ls[i].2.length c) ls[i].2 from hR) 0 (j : Int) (by omega) (by omega)
  simp only [Int.toNat_natCast, show (Kd.int .i64).sz = 1 from rfl, Nat.mul_one] at hpc hpf hpM
  have hcp := int_open hpM
  subst hcp
  have e : ls[i].2.getD j 0 = ls[i].2[j] := by rw [List.getD_eq_getElem?_getD, List.getElem?_eq_getElem hj]; rfl
  rw [e] at hpc
  exact ⟨g, c, h1, hpc 0 _ rfl⟩
end L2
end Go.Proofs.Ytmmjkebboonnkaa.P
