/- P.modelMemory_holds, part 34 of 37: the contracts of the Go functions that the law calls, its own walk, and its plain law, for every input that the statement speaks of. -/
import Derived.Test.YtanlnfcjdjamaaaMMe32
import Derived.Test.YtanlnfcjdjamaaaMMe28
import Derived.Test.YtanlnfcjdjamaaaMMe2
set_option linter.unusedVariables false
set_option linter.unusedSimpArgs false
/- E23 -/
namespace Go.Proofs.Ytanlnfcjdjamaaa.P
open Go.RowKit Go.Proofs.YtanlnfcjdjamaaaW.PrintWords Go.Proofs.YtanlnfcjdjamaaaW.PrintLast Go.Proofs.YtanlnfcjdjamaaaW.PrintMore
structure Rr (W : World) (s1 : Nat) (A : Option Addr) (c : Nat) (rs : List S27) (us : List (Sl × List S51)) : Prop where
  s : Kd.S k27 27 W s1 (fun _ => True) (.slice A rs.length c) rs
  cell : ∀ j (hj : j < us.length), ∃ ad, A = some ad ∧ W.cell? (ad.add (j * 4 + 3)) = some (encSl us[j].1)
  snd : us.map Prod.snd = rs.map (·.f3)
theorem Rr.below {W W' : World} {s1 : Nat} {A : Option Addr} {c : Nat} {rs : List S27} {us : List (Sl × List S51)} (h : Rr W s1 A c rs us) (hb : Below W.heap.size W W') : Rr W' s1 A c rs us :=
  ⟨Kd.S_below h.s hb, fun j hj => by
    obtain ⟨ad, e, hc⟩ := h.cell j hj
    exact ⟨ad, e, (hb.cell (World.block_lt_of_cell? W _ hc)).trans hc⟩, h.snd⟩
theorem Rr.len {W : World} {s1 : Nat} {A : Option Addr} {c : Nat} {rs : List S27} {us : List (Sl × List S51)} (h : Rr W s1 A c rs us) : us.length = rs.length := by
  have := congrArg List.length h.snd
  simpa using this
theorem S_fam {W : World} {base : Nat} {ok : Nat → Prop} {A : Option Addr} {c : Nat} {rs : List S27} (h : Kd.S k27 27 W base ok (.slice A rs.length c) rs) :
    ∃ us : List (Sl × List S51), Rr W base A c rs us ∧ Fam W base W.heap.size us ∧ ∀ p ∈ us, ∀ k, (encSl p.1).ownBlock = some k → ok k := by
  have hS := h
  obtain ⟨f, h⟩ := h
  obtain ⟨us, hul, hq⟩ := list_of (fun j (p : Sl × List S51) => p.2 = (rs.getD j ⟨false, 0, 0, []⟩).f3 ∧ Kd.R k51 51 W base (fun k => ok k ∧ f k = j) (encSl p.1) p.2 ∧ ∃ ad, A = some ad ∧ W.cell? (ad.add (j * 4 + 3)) = some (encSl p.1)) rs.length (fun j hj => by
    obtain ⟨g, cap, he, -⟩ := Kd.R_form h (by rw [List.length_zipIdx]; omega)
    injection he with hA _ _
    subst hA
    obtain ⟨cs, hcl, hM, hcc⟩ := Kd.R_getA h (⟨false, 0, 0, []⟩, 0) (j : Int) (by omega) (by omega)
    simp only [Int.toNat_natCast] at hM hcc
    have hz : rs.zipIdx.getD j (⟨false, 0, 0, []⟩, 0) = (rs.getD j ⟨false, 0, 0, []⟩, j) := by
      rw [List.getD_eq_getElem?_getD, List.getElem?_zipIdx, List.getD_eq_getElem?_getD, List.getElem?_eq_getElem hj]
      simp
    rw [hz] at hM
    obtain ⟨v3, rfl, hR⟩ := k27_openM (show k27.M W base _ (rs.getD j ⟨false, 0, 0, []⟩) cs from hM)
    obtain ⟨A3, c3, rfl⟩ := Kd.R_slice hR
    exact ⟨(⟨A3, _, c3⟩, _), rfl, Kd.R_mono hR (fun k hk => ⟨hk.1.1, hk.2⟩), _, rfl, hcc 3 _ rfl⟩)
  have hat : ∀ j (hj : j < us.length), us[j].2 = (rs.getD j ⟨false, 0, 0, []⟩).f3 ∧ Kd.R k51 51 W base (fun k => ok k ∧ f k = j) (encSl us[j].1) us[j].2 ∧ ∃ ad, A = some ad ∧ W.cell? (ad.add (j * 4 + 3)) = some (encSl us[j].1) := fun j hj => hq j _ (List.getElem?_eq_getElem hj)
  refine ⟨us, ⟨Kd.S_mono hS (fun _ _ => trivial), fun j hj => (hat j hj).2.2, ?_⟩, ⟨fun p hp => ?_, List.pairwise_iff_getElem.2 fun a b ha hb hab k h1 h2 => ?_⟩, fun p hp k hk => ?_⟩
  · apply List.ext_getElem (by simp [hul])
    intro j h1 h2
    simp only [List.length_map] at h1 h2
    simp only [List.getElem_map]
    rw [(hat j h1).1, List.getD_eq_getElem?_getD, List.getElem?_eq_getElem h2]
    rfl
  · obtain ⟨j, hj, rfl⟩ := List.getElem_of_mem hp
    exact Kd.R_mono (Kd.R_bound (hat j hj).2.1) (fun k hk => hk.2.2.1)
  · have e1 := ((hat a ha).2.1.1 k h1).2
    have e2 := ((hat b hb).2.1.1 k h2).2
    omega
  · obtain ⟨j, hj, rfl⟩ := List.getElem_of_mem hp
    exact ((hat j hj).2.1.1 k hk).1
theorem Fam.cons {W : World} {bot top : Nat} {us : List (Sl × List S51)} {v : Sl} {l : List S51} {ok : Nat → Prop} (h : Fam W bot top us) (hR : Kd.R k51 51 W bot ok (encSl v) l) (ht : W.heap.size ≤ top) (hn : ∀ p ∈ us, ∀ k, (encSl p.1).ownBlock = some k → some k ≠ (encSl v).ownBlock) : Fam W bot top ((v, l) :: us) :=
  ⟨fun p hp => by
    rcases List.mem_cons.1 hp with rfl | hp
    · exact Kd.R_mono (Kd.R_bound hR) (fun k hk => Nat.lt_of_lt_of_le hk.2.2.1 ht)
    · exact h.row p hp, List.pairwise_cons.2 ⟨fun p hp k h1 h2 => hn p hp k h2 h1.symm, h.apart⟩⟩
theorem perm5 {α : Type} (a b c d e : α) (us : List α) : List.Perm (((a :: us) ++ [b, e]) ++ [c] ++ [d]) ([a, b, c, d, e] ++ us) := by
  have h1 : ((a :: us) ++ [b, e]) ++ [c] ++ [d] = a :: (us ++ [b, e, c, d]) := by simp
  rw [h1]
  refine List.Perm.cons a ?_
  refine List.perm_append_comm.trans ?_
  exact List.Perm.append_right us (List.Perm.cons b (List.perm_append_comm (l₁ := [e]) (l₂ := [c, d])))
structure Lp (W0 W : World) (top : Nat) (ls : List (Sl × List S51)) (v17 : Value) : Prop where
  bel : Below W0.heap.size W0 W
  fam : Fam W W0.heap.size top ls
  arr : Kd.R kSl 22 W W0.heap.size (fun _ => True) v17 (ls.map Prod.fst)
  len : ∀ p ∈ ls, p.2.length ≤ 1000
  cnt : ls.length ≤ 1000
theorem Lp.below {W0 W W' : World} {top : Nat} {ls : List (Sl × List S51)} {v17 : Value} (h : Lp W0 W top ls v17) (hb : Below W.heap.size W W') : Lp W0 W' top ls v17 :=
  ⟨below_step h.bel hb, h.fam.below hb, Kd.R_below h.arr hb, h.len, h.cnt⟩
structure Mo (w W : World) (B2 : Option Addr) (d2 : Nat) (ops : List S25) (Amx : Option Addr) (cmx : Nat) (mx : List S51) (Aox : Option Addr) (cox : Nat) (ox : List S25) : Prop where
  op : Kd.R k25 25 W w.heap.size (fun _ => True) (.slice B2 ops.length d2) ops
  mx : Kd.R k51 51 W w.heap.size (fun _ => True) (.slice Amx mx.length cmx) mx
  ox : Kd.R k25 25 W w.heap.size (fun _ => True) (.slice Aox ox.length cox) ox
theorem Mo.below {w W W' : World} {B2 Amx Aox : Option Addr} {d2 cmx cox : Nat} {ops ox : List S25} {mx : List S51} (h : Mo w W B2 d2 ops Amx cmx mx Aox cox ox) (hb : Below W.heap.size W W') : Mo w W' B2 d2 ops Amx cmx mx Aox cox ox := ⟨Kd.R_below h.op hb, Kd.R_below h.mx hb, Kd.R_below h.ox hb⟩
theorem Mo.mC {w W : World} {B2 Amx Aox : Option Addr} {d2 cmx cox : Nat} {ops ox : List S25} {mx m t : List S51} (h : Mo w W B2 d2 ops Amx cmx mx Aox cox ox) (hx : mx = m ++ t) : Kd.C k51 W Amx m.length m ∧ m.length ≤ cmx := by
  have h1 := Kd.R_reads' h.mx
  have hle : m.length ≤ mx.length := by rw [hx]; simp
  have h2 := Kd.C_take h1.2.2 hle
  rw [show mx.take m.length = m by rw [hx]; simp] at h2
  exact ⟨h2, by omega⟩
theorem Mo.oC {w W : World} {B2 Amx Aox : Option Addr} {d2 cmx cox : Nat} {ops ox t : List S25} {mx : List S51} (h : Mo w W B2 d2 ops Amx cmx mx Aox cox ox) (hx : ox = ops ++ t) : Kd.C k25 W Aox ops.length ops ∧ ops.length ≤ cox := by
  have h1 := Kd.R_reads' h.ox
  have hle : ops.length ≤ ox.length := by rw [hx]; simp
  have h2 := Kd.C_take h1.2.2 hle
  rw [show ox.take ops.length = ops by rw [hx]; simp] at h2
  exact ⟨h2, by omega⟩
theorem cells_ty {W : World} {k a b : Nat} {cs ds : Array Value} (h1 : W.heap[k]? = some (.cells cs a (0, 0))) (h2 : W.heap[k]? = some (.cells ds b (0, 0))) : a = b := by
  rw [h1] at h2
  injection h2 with h2
  injection h2
theorem Fam.grown {W W' : World} {bot top : Nat} {us : List (Sl × List S51)} {v : Value} (h : Fam W bot top us) (hty : ∀ k, v.ownBlock = some k → ∃ cells, W.heap[k]? = some (.cells cells 22 (0, 0))) (hg : W.grownBy W' v.ownBlock) : Fam W' bot top us :=
  ⟨fun p hp => Kd.R_over' (h.row p hp) hty (by decide) hg, h.apart⟩
theorem Rr.grown {W W' : World} {s1 : Nat} {A : Option Addr} {c : Nat} {rs : List S27} {us : List (Sl × List S51)} {v : Value} (h : Rr W s1 A c rs us) (hty : ∀ k, v.ownBlock = some k → ∃ cells, W.heap[k]? = some (.cells cells 22 (0, 0))) (hg : W.grownBy W' v.ownBlock) : Rr W' s1 A c rs us :=
  ⟨Kd.S_over' h.s hty (by decide) hg, fun j hj => by
    obtain ⟨ad, e, hc⟩ := h.cell j hj
    subst e
    refine ⟨ad, rfl, cell_grown hg hc (fun he => ?_)⟩
    obtain ⟨ds, hd⟩ := hty _ he.symm
    obtain ⟨g, hg'⟩ := Kd.R_head (Kd.S_R h.s)
    obtain ⟨cs, hcs⟩ := Kd.S_typed h.s ad.block (by rw [hg']; simp [Value.ownBlock])
    exact absurd (cells_ty hcs hd) (by decide), h.snd⟩
theorem Fam.chgT {W W' : World} {bot top t : Nat} {us : List (Sl × List S51)} {v : Value} (h : Fam W bot top us) (hty : ∀ k, v.ownBlock = some k → ∃ cells, W.heap[k]? = some (.cells cells t (0, 0))) (ht : 51 ≠ t) (hc : Chg W W' (fun k => some k = v.ownBlock)) : Fam W' bot top us :=
  h.chg hc (fun p hp k hk hk2 => by
    obtain ⟨cs, hcs⟩ := Kd.R_typed (h.row p hp) k hk
    obtain ⟨ds, hds⟩ := hty k hk2.symm
    exact ht (cells_ty hcs hds))
theorem sl_chgT {W W' : World} {base t : Nat} {ok : Nat → Prop} {u v : Value} {vs : List Sl} (h : Kd.R kSl 22 W base ok u vs) (hty : ∀ k, v.ownBlock = some k → ∃ cells, W.heap[k]? = some (.cells cells t (0, 0))) (ht : 22 ≠ t) (hc : Chg W W' (fun k => some k = v.ownBlock)) : Kd.R kSl 22 W' base ok u vs :=
  Kd.R_mono (hc.R (Kd.R_tight2 kSl_E h) (fun k hk _ hk2 => by
    obtain ⟨cs, hcs⟩ := Kd.R_typed h k hk.1.symm
    obtain ⟨ds, hds⟩ := hty k hk2.symm
    exact ht (cells_ty hcs hds))) (fun _ hk => hk.2)
theorem Fam.spilled {W W' : World} {bot top : Nat} {ls : List (Sl × List S51)} {ok : Nat → Prop} (h : Fam W bot top ls) {i : Nat} (hi : i < ls.length) (hc : Chg W W' (fun k => some k = (encSl ls[i].1).ownBlock)) (hR : Kd.R k51 51 W' bot ok (encSl ls[i].1) ls[i].2) : Fam W' bot top ls := by
  have := h.set hi (ys := ls[i].2) hc (k51_tight hR)
  rwa [show ls.set i (ls[i].1, ls[i].2) = ls from List.set_getElem_self hi] at this
structure Rn (W0 W : World) (t0 s1 t1 : Nat) (ls us5 : List (Sl × List S51)) (A : Option Addr) (c : Nat) (rs : List S27) (us : List (Sl × List S51)) : Prop where
  fam : Fam W W0.heap.size t0 ls
  new : Fam W s1 t1 us5
  rr : Rr W s1 A c rs us
theorem Rn.below {W0 W W' : World} {t0 s1 t1 c : Nat} {ls us5 us : List (Sl × List S51)} {A : Option Addr} {rs : List S27} (h : Rn W0 W t0 s1 t1 ls us5 A c rs us) (hb : Below W.heap.size W W') : Rn W0 W' t0 s1 t1 ls us5 A c rs us := ⟨h.fam.below hb, h.new.below hb, h.rr.below hb⟩
theorem Rn.alloc {W0 W : World} {t0 s1 t1 c : Nat} {ls us5 us : List (Sl × List S51)} {A : Option Addr} {rs : List S27} (h : Rn W0 W t0 s1 t1 ls us5 A c rs us) (o : Obj) : Rn W0 (W.alloc o) t0 s1 t1 ls us5 A c rs us := h.below (below_alloc (Below.refl _ _) o)
theorem Rn.grown {W0 W W' : World} {t0 s1 t1 c : Nat} {ls us5 us : List (Sl × List S51)} {A : Option Addr} {rs : List S27} {b : Nat} {ok : Nat → Prop} {v : Value} {vs : List Sl} (h : Rn W0 W t0 s1 t1 ls us5 A c rs us) (arr : Kd.R kSl 22 W b ok v vs) (hg : W.grownBy W' v.ownBlock) : Rn W0 W' t0 s1 t1 ls us5 A c rs us :=
  ⟨h.fam.grown (Kd.R_typed arr) hg, h.new.grown (Kd.R_typed arr) hg, h.rr.grown (Kd.R_typed arr) hg⟩
theorem map_set_fst (ls : List (Sl × List S51)) {i : Nat} (hi : i < ls.length) (ys : List S51) : (ls.set i (ls[i].1, ys)).map Prod.fst = ls.map Prod.fst := by
  apply List.ext_getElem (by simp)
  intro j h1 h2
  simp only [List.getElem_map, List.getElem_set]
  split
  · rename_i he; subst he; rfl
  · rfl
theorem Chg.of_grown_row {a b : World} {row : Option Nat} (h : a.grownBy b row) : Chg a b (fun k => some k = row) := ⟨h.os, h.tape, h.output, h.size, fun i hi hn => h.block i hi hn⟩
structure L2 (W0 W : World) (t2 : Nat) (ls ws : List (Sl × List S51)) (v17 v18 : Value) : Prop where
  bel : Below W0.heap.size W0 W
  sz : W0.heap.size ≤ t2 ∧ t2 ≤ W.heap.size
  fam : Fam W W0.heap.size t2 ls
  wan : Fam W t2 W.heap.size ws
  arr : Kd.R kSl 22 W W0.heap.size (fun k => k < t2) v17 (ls.map Prod.fst)
  arw : Kd.R kSl 22 W t2 (fun _ => True) v18 (ws.map Prod.fst)
namespace L2
variable {W0 W W' : World} {t2 : Nat} {ls ws : List (Sl × List S51)} {v17 v18 : Value}
theorem below (h : L2 W0 W t2 ls ws v17 v18) (hb : Below W.heap.size W W') : L2 W0 W' t2 ls ws v17 v18 :=
  ⟨below_step h.bel hb, ⟨h.sz.1, Nat.le_trans h.sz.2 hb.size⟩, h.fam.below hb, (h.wan.below hb).raise hb.size, Kd.R_below h.arr hb, Kd.R_below h.arw hb⟩
theorem drew (h : L2 W0 W t2 ls ws v17 v18) : L2 W0 W.drew t2 ls ws v17 v18 := h.below (below_drew1 (Below.refl _ _))
theorem write (h : L2 W0 W t2 ls ws v17 v18) {i : Nat} (hi : i < ls.length) {j : Nat} (hj : j < ls[i].2.length) (p : S51) :
    ∃ g c, ls[i].1 = ⟨some ⟨g, 0, none⟩, ls[i].2.length, c⟩ ∧ (∃ a, W.cell? ⟨g, j * 2, none⟩ = some (.int .i64 a)) ∧ (∃ a, W.cell? ⟨g, j * 2 + 1, none⟩ = some (.int .i64 a)) ∧ W.frozen? ⟨g, j * 2, none⟩ = false ∧ W.frozen? ⟨g, j * 2 + 1, none⟩ = false ∧
      L2 W0 ((W.setCell ⟨g, j * 2, none⟩ (.int .i64 p.f0)).setCell ⟨g, j * 2 + 1, none⟩ (.int .i64 p.f1)) t2 (ls.set i (ls[i].1, ls[i].2.set j p)) ws v17 v18 := by
  obtain ⟨g, c, h1, hb, ht, hs, ⟨cs, hcs⟩, c0, c1, f0, f1, hch, hF⟩ := h.fam.write hi hj p
  refine ⟨g, c, h1, c0, c1, f0, f1, ⟨hch.to_below h.bel h.bel.size (fun k hk => hk ▸ hb), ⟨h.sz.1, Nat.le_trans h.sz.2 hch.size⟩, hF, ?_, ?_, sl_chg h.arw hch hcs⟩⟩
  · exact (h.wan.chg hch (fun p hp k hk hk2 => by
      have := Kd.R_base (h.wan.row p hp) k hk
      omega)).raise hch.size
  · rw [map_set_fst]
    exact sl_chg h.arr hch hcs
theorem spill (h : L2 W0 W t2 ls ws v17 v18) {i : Nat} (hi : i < ls.length) {ok : Nat → Prop} (hc : Chg W W' (fun k => some k = (encSl ls[i].1).ownBlock)) (hR : Kd.R k51 51 W' W0.heap.size ok (encSl ls[i].1) ls[i].2) : L2 W0 W' t2 ls ws v17 v18 := by
  have hr := h.fam.row _ (List.getElem_mem hi)
  refine ⟨hc.to_below h.bel h.bel.size (fun k hk => Kd.R_base hr k hk.symm), ⟨h.sz.1, Nat.le_trans h.sz.2 hc.size⟩, h.fam.spilled hi hc hR, ?_, sl_chgT h.arr (Kd.R_typed hr) (by decide) hc, sl_chgT h.arw (Kd.R_typed hr) (by decide) hc⟩
  exact (h.wan.chg hc (fun p hp k hk hk2 => by
    have h1 := Kd.R_base (h.wan.row p hp) k hk
    have h2 := hr.1 k hk2.symm
    omega)).raise hc.size
theorem push {A B : World} (h : L2 W0 W t2 ls ws v17 v18) (hb : Below W.heap.size W A) {ok : Nat → Prop} {s : Sl} {l : List S51} (ho : Kd.R k51 51 A W.heap.size ok (encSl s) l) {o : Obj} (hg : (A.alloc o).grownBy B v18.ownBlock) {v1 : Value} (ha : Kd.R kSl 22 B t2 (fun _ => True) v1 (ws.map Prod.fst ++ [s])) : L2 W0 B t2 ls (ws ++ [(s, l)]) v17 v1 := by
  have h2 := (h.below hb).below (below_alloc (Below.refl _ _) o)
  have hch := Chg.of_grown_row hg
  refine ⟨hch.to_below h2.bel h2.bel.size (fun k hk => Nat.le_trans h.sz.1 (Kd.R_base h2.arw k hk.symm)), ⟨h.sz.1, Nat.le_trans h2.sz.2 hg.size⟩, h2.fam.grown (Kd.R_typed h2.arw) hg, ?_, Kd.R_grown h2.arr hg (fun k hk he => by have := Kd.R_base h2.arw k he.symm; omega), by simpa using ha⟩
  have h3 := ((h.wan.below hb).app (Fam.one ho) h.sz.2 hb.size).below (below_alloc (Below.refl _ _) o)
  exact (h3.grown (Kd.R_typed h2.arw) hg).raise (Nat.le_trans (below_alloc (Below.refl _ _) o).size hg.size)
theorem at_ {g n c : Nat} (h : L2 W0 W t2 ls ws (.slice (some ⟨g, 0, none⟩) n c) v18) {i : Nat} (hi : i < ls.length) : W.cell? ⟨g, i, none⟩ = some (encSl ls[i].1) := by
  obtain ⟨ad, e, hc⟩ := sl_at (Kd.R_reads' h.arr).2.2 (i := i) (s := ls[i].1) (by rw [List.getElem?_map, List.getElem?_eq_getElem hi]; rfl)
  injection e with e
  subst e
  rwa [add_plain] at hc
theorem atw {A : Option Addr} {n c : Nat} (h : L2 W0 W t2 ls ws v17 (.slice A n c)) {i : Nat} (hi : i < ws.length) : ∃ g, A = some ⟨g, 0, none⟩ ∧ W.cell? ⟨g, i, none⟩ = some (encSl ws[i].1) := by
  obtain ⟨ad, rfl, hc⟩ := sl_at (Kd.R_reads' h.arw).2.2 (i := i) (s := ws[i].1) (by rw [List.getElem?_map, List.getElem?_eq_getElem hi]; rfl)
  obtain ⟨g, rfl⟩ := Kd.R_head h.arw
  exact ⟨g, rfl, by rwa [add_plain] at hc⟩
theorem listC (h : L2 W0 W t2 ls ws v17 v18) {i : Nat} (hi : i < ls.length) : ls[i].1.n = ls[i].2.length ∧ ls[i].2.length ≤ ls[i].1.c ∧ Kd.C k51 W ls[i].1.A ls[i].2.length ls[i].2 := by
  have h1 := Kd.R_reads' (A := ls[i].1.A) (n := ls[i].1.n) (c := ls[i].1.c) (h.fam.row _ (List.getElem_mem hi))
  exact ⟨h1.1, by omega, h1.2.2⟩
theorem wanC (h : L2 W0 W t2 ls ws v17 v18) {i : Nat} (hi : i < ws.length) : ws[i].1.n = ws[i].2.length ∧ ws[i].2.length ≤ ws[i].1.c ∧ Kd.C k51 W ws[i].1.A ws[i].2.length ws[i].2 := by
  have h1 := Kd.R_reads' (A := ws[i].1.A) (n := ws[i].1.n) (c := ws[i].1.c) (h.wan.row _ (List.getElem_mem hi))
  exact ⟨h1.1, by omega, h1.2.2⟩
end L2
theorem row51 {W : World} {base n c g : Nat} {ok : Nat → Prop} {xs : List S51} (h : Kd.R k51 51 W base ok (.slice (some ⟨g, 0, none⟩) n c) xs) {i : Nat} {p : S51} (hi : xs[i]? = some p) :
    W.cell? ⟨g, i * 2, none⟩ = some (.int .i64 p.f0) ∧ W.cell? ⟨g, i * 2 + 1, none⟩ = some (.int .i64 p.f1) ∧ W.frozen? ⟨g, i * 2, none⟩ = false ∧ W.frozen? ⟨g, i * 2 + 1, none⟩ = false := by
  obtain ⟨hlt, he⟩ := List.getElem?_eq_some_iff.1 hi
  have hn := (Kd.R_reads' h).1
  obtain ⟨cp, hpl, hpM, hpc, hpf⟩ := Kd.R_elem h ⟨0, 0⟩ (i : Int) (by omega) (by omega)
  simp only [Int.toNat_natCast, show k51.sz = 2 from rfl] at hpc hpf hpM
  have hcp := k51_open (k51.K_of_M (w := W) (base := base) hpM)
  rw [List.getD_eq_getElem?_getD, hi, Option.getD_some] at hcp
  subst hcp
  exact ⟨hpc 0 _ rfl, hpc 1 _ rfl, hpf 0, hpf 1⟩
theorem row25 {W : World} {base n c g : Nat} {ok : Nat → Prop} {xs : List S25} (h : Kd.R k25 25 W base ok (.slice (some ⟨g, 0, none⟩) n c) xs) {i : Nat} {p : S25} (hi : xs[i]? = some p) :
    W.cell? ⟨g, i * 4, none⟩ = some (.int .i64 p.f0) ∧ W.cell? ⟨g, i * 4 + 1, none⟩ = some (.int .i64 p.f1) ∧ W.cell? ⟨g, i * 4 + 2, none⟩ = some (.int .i64 p.f2) ∧ W.cell? ⟨g, i * 4 + 3, none⟩ = some (.int .i64 p.f3) := by
  obtain ⟨hlt, he⟩ := List.getElem?_eq_some_iff.1 hi
  have hn := (Kd.R_reads' h).1
  obtain ⟨cp, hpl, hpM, hpc, hpf⟩ := Kd.R_elem h ⟨0, 0, 0, 0⟩ (i : Int) (by omega) (by omega)
  simp only [Int.toNat_natCast, show k25.sz = 4 from rfl] at hpc hpf hpM
  have hcp := k25_open (k25.K_of_M (w := W) (base := base) hpM)
  rw [List.getD_eq_getElem?_getD, hi, Option.getD_some] at hcp
  subst hcp
  exact ⟨hpc 0 _ rfl, hpc 1 _ rfl, hpc 2 _ rfl, hpc 3 _ rfl⟩
def spL (i : Nat) (m : List S51) : List S51 := m.mapIdx (fun k p => if k < i then ⟨3 * (k : Int), p.f1⟩ else p)
theorem spL_len (i : Nat) (m : List S51) : (spL i m).length = m.length := by simp [spL]
theorem spL_zero (m : List S51) : spL 0 m = m := by
  apply List.ext_getElem (by simp [spL])
  intro j h1 h2
  simp [spL]
theorem spL_at {i j : Nat} {m : List S51} (hj : j < m.length) : (spL i m)[j]? = some (if j < i then ⟨3 * (j : Int), m[j].f1⟩ else m[j]) := by
  simp [spL, List.getElem?_mapIdx, List.getElem?_eq_getElem hj]
theorem spL_set {i : Nat} {m t : List S51} (hi : i < m.length) : (spL i m ++ t).set i ⟨3 * (i : Int), m[i].f1⟩ = spL (i + 1) m ++ t := by
  rw [List.set_append_left _ _ (by rw [spL_len]; exact hi)]
  congr 1
  apply List.ext_getElem (by simp [spL])
  intro j h1 h2
  simp only [List.length_set, spL_len] at h1
  rw [List.getElem_set]
  have e1 := spL_at (i := i + 1) (m := m) h1
  have e0 := spL_at (i := i) (m := m) h1
  rw [List.getElem?_eq_getElem (by rw [spL_len]; exact h1)] at e1 e0
  injection e1 with e1
  injection e0 with e0
  rw [e1]
  split
  · rename_i he
    subst he
    rw [if_pos (by omega)]
  · rename_i he
    rw [e0]
    by_cases hc : j < i
    · rw [if_pos hc, if_pos (by omega)]
    · rw [if_neg hc, if_neg (by omega)]
structure L5 (w W : World) (cs : Array Value) (B2 : Option Addr) (d2 : Nat) (ops : List S25) (gm cmx : Nat) (nx : Nat) (xs : List S51) (Aox : Option Addr) (cox : Nat) (ox : List S25) : Prop where
  box : W.heap[w.heap.size]? = some (.cells cs 29 (0, 0))
  bel : Below w.heap.size w W
  op : Kd.R k25 25 W w.heap.size (fun _ => True) (.slice B2 ops.length d2) ops
  mx : Kd.R k51 51 W w.heap.size (fun _ => True) (.slice (some ⟨gm, 0, none⟩) nx cmx) xs
  ox : Kd.R k25 25 W w.heap.size (fun _ => True) (.slice Aox ox.length cox) ox
theorem L5.below {w W W' : World} {cs : Array Value} {B2 Aox : Option Addr} {d2 gm cmx nx cox : Nat} {ops ox : List S25} {xs : List S51} (h : L5 w W cs B2 d2 ops gm cmx nx xs Aox cox ox) (hb : Below W.heap.size W W') : L5 w W' cs B2 d2 ops gm cmx nx xs Aox cox ox :=
  ⟨blk_below h.box hb, below_step h.bel hb, Kd.R_below h.op hb, Kd.R_below h.mx hb, Kd.R_below h.ox hb⟩
theorem L5.write {w W : World} {cs : Array Value} {B2 Aox : Option Addr} {d2 gm cmx nx cox : Nat} {ops ox : List S25} {xs : List S51} (h : L5 w W cs B2 d2 ops gm cmx nx xs Aox cox ox) {i : Nat} (hi : i < xs.length) (p : S51) :
    L5 w ((W.setCell ⟨gm, i * 2, none⟩ (.int .i64 p.f0)).setCell ⟨gm, i * 2 + 1, none⟩ (.int .i64 p.f1)) cs B2 d2 ops gm cmx nx (xs.set i p) Aox cox ox := by
  have hn := (Kd.R_reads' h.mx).1
  have hty := Kd.R_typed h.mx gm (by simp [Value.ownBlock])
  have hba := Kd.R_base h.mx gm (by simp [Value.ownBlock])
  obtain ⟨ds, hds⟩ := hty
  obtain ⟨cp, hpl, hpM, hpc, hpf⟩ := Kd.R_elem h.mx ⟨0, 0⟩ (i : Int) (by omega) (by omega)
  simp only [Int.toNat_natCast, show k51.sz = 2 from rfl] at hpc hpf hpM
  have hseg := Kd.R_seg h.mx (i : Int) (by omega) (by omega) (c := _) (seg := [.int .i64 p.f0, .int .i64 p.f1]) (j := 0) (x' := p) (okp := fun _ => False) hpl (by rw [Int.toNat_natCast]; exact hpc) (by show 0 + 2 ≤ 2; decide) (by
    have hcp := k51_open (k51.K_of_M (w := W) (base := w.heap.size) hpM)
    subst hcp
    exact k51_mk W p) (fun _ hk => hk.elim)
  rw [Int.toNat_natCast] at hseg
  have hw : W.setCells gm (i * k51.sz + 0) [.int .i64 p.f0, .int .i64 p.f1] = (W.setCell ⟨gm, i * 2, none⟩ (.int .i64 p.f0)).setCell ⟨gm, i * 2 + 1, none⟩ (.int .i64 p.f1) := rfl
  rw [hw] at hseg
  obtain ⟨h1, hg⟩ := hseg
  have hch := Chg.of_grown_row hg
  have hne : w.heap.size ≠ gm := fun e => by
    subst e
    exact absurd (cells_ty h.box hds) (by decide)
  refine ⟨?_, hch.to_below h.bel h.bel.size (fun k hk => by injection hk with hk; omega), Kd.R_over' (v := .slice (some ⟨gm, 0, none⟩) nx cmx) h.op (Kd.R_typed h.mx) (by decide) (by simpa [Value.ownBlock] using hg), h1, Kd.R_over' (v := .slice (some ⟨gm, 0, none⟩) nx cmx) h.ox (Kd.R_typed h.mx) (by decide) (by simpa [Value.ownBlock] using hg)⟩
  exact (hg.block _ (blk_lt h.box) (by simpa using hne)).trans h.box
end Go.Proofs.Ytanlnfcjdjamaaa.P
