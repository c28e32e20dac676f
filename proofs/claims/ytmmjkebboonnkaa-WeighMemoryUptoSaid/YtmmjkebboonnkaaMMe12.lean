/- P.weighMemory_holds, part 13 of 28: the contracts of the Go functions that the law calls, its own walk, and its plain law, for every input that the statement speaks of. -/
import Derived.Test.YtmmjkebboonnkaaMMe11
import Derived.Test.YtmmjkebboonnkaaMMe2
set_option linter.unusedVariables false
set_option linter.unusedSimpArgs false
/- E14 -/
namespace Go.Proofs.Ytmmjkebboonnkaa.P
open Go.RowKit Go.Proofs.YtmmjkebboonnkaaW.PrintWords Go.Proofs.YtmmjkebboonnkaaW.PrintLast Go.Proofs.YtmmjkebboonnkaaW.PrintMore
theorem wp_named {P : Program} {c : Code} {Q : Exit → Act → World → Prop} {a : Act} {w : World} (h : ∀ A0, A0 = a → c.wp P Q A0 w) : c.wp P Q a w := h a rfl
def puts (a : Act) (l : List (Nat × Value)) : Act := l.foldl (fun a p => a.put (some p.1) p.2) a
def boxW (A0 A1 : Option Addr) (n0 n1 c0 c1 : Nat) (a2 a3 : Int) : Array Value := #[.slice A0 n0 c0, .slice A1 n1 c1, .int .i64 a2, .int .i64 a3]
section
variable {W : World} {n : Nat} {A0 A1 : Option Addr} {n0 n1 c0 c1 : Nat} {a2 a3 : Int}
theorem boxm0 (h : W.heap[n]? = some (.cells (boxW A0 A1 n0 n1 c0 c1 a2 a3) 25 (0, 0))) : W.cell? ⟨n, 0, none⟩ = some (.slice A0 n0 c0) := (blk_cell h 0).trans rfl
theorem boxm1 (h : W.heap[n]? = some (.cells (boxW A0 A1 n0 n1 c0 c1 a2 a3) 25 (0, 0))) : W.cell? ⟨n, 1, none⟩ = some (.slice A1 n1 c1) := (blk_cell h 1).trans rfl
theorem boxm2 (h : W.heap[n]? = some (.cells (boxW A0 A1 n0 n1 c0 c1 a2 a3) 25 (0, 0))) : W.cell? ⟨n, 2, none⟩ = some (.int .i64 a2) := (blk_cell h 2).trans rfl
end
structure Cy (w W : World) (cs : Array Value) : Prop where
  box : W.heap[w.heap.size]? = some (.cells cs 25 (0, 0))
  bel : Below w.heap.size w W
namespace Cy
variable {w W W' : World} {cs : Array Value}
theorem below (h : Cy w W cs) (hb : Below W.heap.size W W') : Cy w W' cs := ⟨blk_below h.box hb, below_step h.bel hb⟩
theorem drew (h : Cy w W cs) : Cy w W.drew cs := h.below (below_drew1 (Below.refl _ _))
theorem alloc (h : Cy w W cs) (o : Obj) : Cy w (W.alloc o) cs := h.below (below_alloc (Below.refl _ _) o)
end Cy
structure St (w W : World) (cs : Array Value) (Atx : Option Addr) (ctx : Nat) (tx : List S49) (Awx : Option Addr) (cwx : Nat) (wx : List Int) (Aw : Option Addr) (want : List Int) (Ar : Option Addr) (reds : List Int) (Ah : Option Addr) (hv : List S49) : Prop where
  cy : Cy w W cs
  tx : Kd.R k49 49 W w.heap.size (fun _ => True) (.slice Atx tx.length ctx) tx
  wx : Kd.R (Kd.int .i64) 3 W w.heap.size (fun _ => True) (.slice Awx wx.length cwx) wx
  w0 : Kd.C (Kd.int .i64) W Aw want.length want
  r0 : Kd.C (Kd.int .i64) W Ar reds.length reds
  h0 : Kd.C k49 W Ah hv.length hv
namespace St
variable {w W W' : World} {cs : Array Value} {Atx Awx Aw Ar Ah : Option Addr} {ctx cwx : Nat} {tx hv : List S49} {wx want reds : List Int}
theorem below (h : St w W cs Atx ctx tx Awx cwx wx Aw want Ar reds Ah hv) (hb : Below W.heap.size W W') : St w W' cs Atx ctx tx Awx cwx wx Aw want Ar reds Ah hv :=
  ⟨h.cy.below hb, Kd.R_below h.tx hb, Kd.R_below h.wx hb, Kd.C_below h.w0 hb, Kd.C_below h.r0 hb, Kd.C_below h.h0 hb⟩
theorem drew (h : St w W cs Atx ctx tx Awx cwx wx Aw want Ar reds Ah hv) : St w W.drew cs Atx ctx tx Awx cwx wx Aw want Ar reds Ah hv := h.below (below_drew1 (Below.refl _ _))
end St
theorem tx_C {W : World} {base : Nat} {A : Option Addr} {c : Nat} {tx l t : List S49} (h : Kd.R k49 49 W base (fun _ => True) (.slice A tx.length c) tx) (hx : tx = l ++ t) : Kd.C k49 W A l.length l ∧ l.length ≤ c := by
  have h1 := Kd.R_reads' h
  have hle : l.length ≤ tx.length := by rw [hx]; simp
  have h2 := Kd.C_take h1.2.2 hle
  rw [show tx.take l.length = l by rw [hx]; simp] at h2
  exact ⟨h2, by omega⟩
theorem wx_C {W : World} {base : Nat} {A : Option Addr} {c : Nat} {wx l t : List Int} (h : Kd.R (Kd.int .i64) 3 W base (fun _ => True) (.slice A wx.length c) wx) (hx : wx = l ++ t) : Kd.C (Kd.int .i64) W A l.length l ∧ l.length ≤ c := by
  have h1 := Kd.R_reads' h
  have hle : l.length ≤ wx.length := by rw [hx]; simp
  have h2 := Kd.C_take h1.2.2 hle
  rw [show wx.take l.length = l by rw [hx]; simp] at h2
  exact ⟨h2, by omega⟩
theorem row49 {W : World} {base n c g : Nat} {ok : Nat → Prop} {xs : List S49} (h : Kd.R k49 49 W base ok (.slice (some ⟨g, 0, none⟩) n c) xs) {i : Nat} {p : S49} (hi : xs[i]? = some p) :
    (W.cell? ⟨g, i * 6, none⟩ = some (.int .i64 p.f0) ∧ W.cell? ⟨g, i * 6 + 1, none⟩ = some (.int .i64 p.f1) ∧ W.cell? ⟨g, i * 6 + 2, none⟩ = some (.int .i64 p.f2) ∧ W.cell? ⟨g, i * 6 + 3, none⟩ = some (.int .i64 p.f3) ∧ W.cell? ⟨g, i * 6 + 4, none⟩ = some (.int .i64 p.f4) ∧ W.cell? ⟨g, i * 6 + 5, none⟩ = some (.int .i64 p.f5)) ∧
    W.frozen? ⟨g, i * 6, none⟩ = false ∧ W.frozen? ⟨g, i * 6 + 1, none⟩ = false ∧ W.frozen? ⟨g, i * 6 + 2, none⟩ = false ∧ W.frozen? ⟨g, i * 6 + 3, none⟩ = false ∧ W.frozen? ⟨g, i * 6 + 4, none⟩ = false ∧ W.frozen? ⟨g, i * 6 + 5, none⟩ = false := by
  obtain ⟨hlt, he⟩ := List.getElem?_eq_some_iff.1 hi
  have hn := (Kd.R_reads' h).1
  obtain ⟨cp, hpl, hpM, hpc, hpf⟩ := Kd.R_elem h ⟨0, 0, 0, 0, 0, 0⟩ (i : Int) (by omega) (by omega)
  simp only [Int.toNat_natCast, show k49.sz = 6 from rfl] at hpc hpf hpM
  have hcp := k49_open (k49.K_of_M (w := W) (base := base) hpM)
  rw [List.getD_eq_getElem?_getD, hi, Option.getD_some] at hcp
  subst hcp
  exact ⟨⟨hpc 0 _ rfl, hpc 1 _ rfl, hpc 2 _ rfl, hpc 3 _ rfl, hpc 4 _ rfl, hpc 5 _ rfl⟩, hpf 0, hpf 1, hpf 2, hpf 3, hpf 4, hpf 5⟩
theorem write49 {W : World} {base n c g : Nat} {ok : Nat → Prop} {xs : List S49} (h : Kd.R k49 49 W base ok (.slice (some ⟨g, 0, none⟩) n c) xs) {i : Nat} (hi : i < xs.length) (p : S49) {W' : World}
    (hW : W' = ((((((W.setCell ⟨g, i * 6, none⟩ (.int .i64 p.f0)).setCell ⟨g, i * 6 + 1, none⟩ (.int .i64 p.f1)).setCell ⟨g, i * 6 + 2, none⟩ (.int .i64 p.f2)).setCell ⟨g, i * 6 + 3, none⟩ (.int .i64 p.f3)).setCell ⟨g, i * 6 + 4, none⟩ (.int .i64 p.f4)).setCell ⟨g, i * 6 + 5, none⟩ (.int .i64 p.f5))) :
    Kd.R k49 49 W' base ok (.slice (some ⟨g, 0, none⟩) n c) (xs.set i p) ∧ Chg W W' (fun k => k = g) := by
  have hn := (Kd.R_reads' h).1
  obtain ⟨cp, hpl, hpM, hpc, hpf⟩ := Kd.R_elem h ⟨0, 0, 0, 0, 0, 0⟩ (i : Int) (by omega) (by omega)
  simp only [Int.toNat_natCast, show k49.sz = 6 from rfl] at hpc hpf hpM
  have hcp := k49_open (k49.K_of_M (w := W) (base := base) hpM)
  subst hcp
  have hseg := Kd.R_seg h (i : Int) (by omega) (by omega) (c := _) (seg := [.int .i64 p.f0, .int .i64 p.f1, .int .i64 p.f2, .int .i64 p.f3, .int .i64 p.f4, .int .i64 p.f5]) (j := 0) (x' := p) (okp := fun _ => False) hpl (by rw [Int.toNat_natCast]; exact hpc) (by show 0 + 6 ≤ 6; decide) (k49_mk W p) (fun _ hk => hk.elim)
  rw [Int.toNat_natCast] at hseg
  have hw : W.setCells g (i * k49.sz + 0) [.int .i64 p.f0, .int .i64 p.f1, .int .i64 p.f2, .int .i64 p.f3, .int .i64 p.f4, .int .i64 p.f5] = W' := hW.symm
  rw [hw] at hseg
  refine ⟨Kd.R_mono hseg.1 (fun k hk => hk), ?_⟩
  rw [← hw]
  exact Chg.sets W (ok := fun k => k = g) rfl _
theorem writeW {W : World} {base n c g : Nat} {ok : Nat → Prop} {xs : List S49} (h : Kd.R k49 49 W base ok (.slice (some ⟨g, 0, none⟩) n c) xs) {i : Nat} (hi : i < xs.length) (v : Int) :
    Kd.R k49 49 (W.setCell ⟨g, i * 6 + 2, none⟩ (.int .i64 v)) base ok (.slice (some ⟨g, 0, none⟩) n c) (xs.set i ⟨xs[i].f0, xs[i].f1, v, xs[i].f3, xs[i].f4, xs[i].f5⟩) := by
  have hn := (Kd.R_reads' h).1
  obtain ⟨cp, hpl, hpM, hpc, hpf⟩ := Kd.R_elem h ⟨0, 0, 0, 0, 0, 0⟩ (i : Int) (by omega) (by omega)
  simp only [Int.toNat_natCast, show k49.sz = 6 from rfl] at hpc hpf hpM
  have hcp := k49_open (k49.K_of_M (w := W) (base := base) hpM)
  have e : xs.getD i ⟨0, 0, 0, 0, 0, 0⟩ = xs[i] := by rw [List.getD_eq_getElem?_getD, List.getElem?_eq_getElem hi]; rfl
  rw [e] at hcp
  subst hcp
  have hseg := (Kd.R_seg h (i : Int) (by omega) (by omega) (c := _) (seg := [.int .i64 v]) (j := 2) (x' := ⟨xs[i].f0, xs[i].f1, v, xs[i].f3, xs[i].f4, xs[i].f5⟩) (okp := fun _ => False) hpl (by rw [Int.toNat_natCast]; exact hpc) (by show 2 + 1 ≤ 6; decide) (k49_mk W ⟨xs[i].f0, xs[i].f1, v, xs[i].f3, xs[i].f4, xs[i].f5⟩) (fun _ hk => hk.elim)).1
  rw [Int.toNat_natCast] at hseg
  have hw : W.setCells g (i * k49.sz + 2) [.int .i64 v] = W.setCell ⟨g, i * 6 + 2, none⟩ (.int .i64 v) := rfl
  rw [hw] at hseg
  exact Kd.R_mono hseg (fun k hk => hk)
structure Lp (W0 W : World) (top : Nat) (ls : List (Sl × List Int)) (v12 : Value) : Prop where
  bel : Below W0.heap.size W0 W
  fam : Fam W W0.heap.size top ls
  arr : Kd.R kSl 23 W W0.heap.size (fun _ => True) v12 (ls.map Prod.fst)
  len : ∀ p ∈ ls, p.2.length ≤ 1000000
theorem Lp.below {W0 W W' : World} {top : Nat} {ls : List (Sl × List Int)} {v12 : Value} (h : Lp W0 W top ls v12) (hb : Below W.heap.size W W') : Lp W0 W' top ls v12 :=
  ⟨below_step h.bel hb, h.fam.below hb, Kd.R_below h.arr hb, h.len⟩
theorem headOf {A : Option Addr} {n c m : Nat} {Q : Nat → Nat → Prop} (h : ∃ g c', Value.slice A n c = .slice (some ⟨g, 0, none⟩) m c' ∧ Q g c') : ∃ g, A = some ⟨g, 0, none⟩ := by
  obtain ⟨g, c', e, -⟩ := h
  cases e
  exact ⟨g, rfl⟩
structure Lh (W0 W : World) (t0 s1 t1 b : Nat) (ls us : List (Sl × List Int)) (v12 : Value) (A : Option Addr) (n c : Nat) : Prop where
  bel : Below W0.heap.size W0 W
  fam : Fam W W0.heap.size t0 ls
  new : Fam W s1 t1 us
  arr : Kd.R kSl 23 W W0.heap.size (fun _ => True) v12 (ls.map Prod.fst)
  row : ∃ xs : List S49, xs.length = n ∧ Kd.R k49 49 W b (fun _ => True) (.slice A n c) xs
  sz : t1 ≤ W.heap.size
  low : W0.heap.size ≤ b
namespace Lh
variable {W0 W W' : World} {t0 s1 t1 b n c : Nat} {A : Option Addr} {ls us : List (Sl × List Int)} {v12 : Value}
theorem write (h : Lh W0 W t0 s1 t1 b ls us v12 A n c) {i : Nat} (hi : i < n) (p : S49) :
    ∃ g, A = some ⟨g, 0, none⟩ ∧ (∃ q : S49, (W.cell? ⟨g, i * 6, none⟩ = some (.int .i64 q.f0) ∧ W.cell? ⟨g, i * 6 + 1, none⟩ = some (.int .i64 q.f1) ∧ W.cell? ⟨g, i * 6 + 2, none⟩ = some (.int .i64 q.f2) ∧ W.cell? ⟨g, i * 6 + 3, none⟩ = some (.int .i64 q.f3) ∧ W.cell? ⟨g, i * 6 + 4, none⟩ = some (.int .i64 q.f4) ∧ W.cell? ⟨g, i * 6 + 5, none⟩ = some (.int .i64 q.f5))) ∧
    (W.frozen? ⟨g, i * 6, none⟩ = false ∧ W.frozen? ⟨g, i * 6 + 1, none⟩ = false ∧ W.frozen? ⟨g, i * 6 + 2, none⟩ = false ∧ W.frozen? ⟨g, i * 6 + 3, none⟩ = false ∧ W.frozen? ⟨g, i * 6 + 4, none⟩ = false ∧ W.frozen? ⟨g, i * 6 + 5, none⟩ = false) ∧
    Lh W0 ((((((W.setCell ⟨g, i * 6, none⟩ (.int .i64 p.f0)).setCell ⟨g, i * 6 + 1, none⟩ (.int .i64 p.f1)).setCell ⟨g, i * 6 + 2, none⟩ (.int .i64 p.f2)).setCell ⟨g, i * 6 + 3, none⟩ (.int .i64 p.f3)).setCell ⟨g, i * 6 + 4, none⟩ (.int .i64 p.f4)).setCell ⟨g, i * 6 + 5, none⟩ (.int .i64 p.f5)) t0 s1 t1 b ls us v12 A n c := by
  obtain ⟨xs, hxl, hR⟩ := h.row
  have hi' : i < xs.length := by omega
  obtain ⟨g, rfl⟩ := headOf (Kd.R_form hR (by omega))
  obtain ⟨hc, hf⟩ := row49 hR (List.getElem?_eq_getElem hi')
  obtain ⟨hR', hch⟩ := write49 hR hi' p rfl
  have hty := Kd.R_typed hR
  have hch' : Chg W _ (fun k => some k = (Value.slice (some ⟨g, 0, none⟩) n c).ownBlock) := hch.mono (fun k hk => by rw [hk]; simp [Value.ownBlock])
  refine ⟨g, rfl, ⟨_, hc⟩, hf, ⟨hch.to_below h.bel h.bel.size (fun k hk => ?_), h.fam.chgT hty (by decide) hch', h.new.chgT hty (by decide) hch', sl_chgT h.arr hty (by decide) hch', ⟨_, by rw [List.length_set]; exact hxl, hR'⟩, Nat.le_trans h.sz hch.size, h.low⟩⟩
  rw [hk]
  exact Nat.le_trans h.low (Kd.R_base hR g (by simp [Value.ownBlock]))
end Lh
theorem rowI {W : World} {base n c g : Nat} {ok : Nat → Prop} {xs : List Int} (h : Kd.R (Kd.int .i64) 3 W base ok (.slice (some ⟨g, 0, none⟩) n c) xs) {i : Nat} {p : Int} (hi : xs[i]? = some p) : W.cell? ⟨g, i, none⟩ = some (.int .i64 p) := by
  obtain ⟨hlt, he⟩ := List.getElem?_eq_some_iff.1 hi
  have hn := (Kd.R_reads' h).1
  obtain ⟨cp, hpl, hpM, hpc, hpf⟩ := Kd.R_elem h 0 (i : Int) (by omega) (by omega)
  simp only [Int.toNat_natCast, show (Kd.int .i64).sz = 1 from rfl, Nat.mul_one] at hpc hpf hpM
  have hcp := int_open hpM
  rw [List.getD_eq_getElem?_getD, hi, Option.getD_some] at hcp
  subst hcp
  exact hpc 0 _ rfl
structure L5 (w W : World) (cs : Array Value) (g c n : Nat) (xs : List S49) : Prop where
  cy : Cy w W cs
  tx : Kd.R k49 49 W w.heap.size (fun _ => True) (.slice (some ⟨g, 0, none⟩) n c) xs
theorem L5.below {w W W' : World} {cs : Array Value} {g c n : Nat} {xs : List S49} (h : L5 w W cs g c n xs) (hb : Below W.heap.size W W') : L5 w W' cs g c n xs := ⟨h.cy.below hb, Kd.R_below h.tx hb⟩
theorem L5.write {w W : World} {cs : Array Value} {g c n : Nat} {xs : List S49} (h : L5 w W cs g c n xs) {i : Nat} (hi : i < xs.length) (v : Int) : L5 w (W.setCell ⟨g, i * 6 + 2, none⟩ (.int .i64 v)) cs g c n (xs.set i ⟨xs[i].f0, xs[i].f1, v, xs[i].f3, xs[i].f4, xs[i].f5⟩) := by
  have hch : Chg W (W.setCell ⟨g, i * 6 + 2, none⟩ (.int .i64 v)) (fun k => k = g) := Chg.set W (ok := fun k => k = g) rfl _
  obtain ⟨ds, hds⟩ := Kd.R_typed h.tx g (by simp [Value.ownBlock])
  have hba := Kd.R_base h.tx g (by simp [Value.ownBlock])
  have hne : ¬ w.heap.size = g := fun e => by
    subst e
    exact absurd (cells_ty h.cy.box hds) (by decide)
  exact ⟨⟨(hch.block _ (blk_lt h.cy.box) hne).trans h.cy.box, hch.to_below h.cy.bel h.cy.bel.size (fun k hk => by omega)⟩, writeW h.tx hi v⟩
theorem L5.tC {w W : World} {cs : Array Value} {g c n : Nat} {ys t : List S49} (h : L5 w W cs g c n (ys ++ t)) : Kd.C k49 W (some ⟨g, 0, none⟩) ys.length ys ∧ ys.length ≤ c := by
  have h1 := Kd.R_reads' h.tx
  have h2 := Kd.C_take (m := ys.length) h1.2.2 (by simp)
  rw [show (ys ++ t).take ys.length = ys by simp] at h2
  have h3 := h1.1
  rw [List.length_append] at h3
  exact ⟨h2, by have := h1.2.1; omega⟩
def Pr (lq : List (Sl × List Int)) (i : Nat) : Prop := ∀ a, a < i → ∀ (h : a < lq.length) j (hj : j < lq[a].2.length), lq[a].2[j] = 200000 * (a : Int) + (j : Int)
def Pj (lq : List (Sl × List Int)) (i j : Nat) : Prop := ∀ (h : i < lq.length) b (hb : b < lq[i].2.length), b < j → lq[i].2[b] = 200000 * (i : Int) + (b : Int)
theorem Pr.zero (lq : List (Sl × List Int)) : Pr lq 0 := fun _ h => absurd h (Nat.not_lt_zero _)
theorem Pj.zero (lq : List (Sl × List Int)) (i : Nat) : Pj lq i 0 := fun _ _ _ h => absurd h (Nat.not_lt_zero _)
theorem Pr.set {lq : List (Sl × List Int)} {i : Nat} (h : Pr lq i) (p : Sl × List Int) : Pr (lq.set i p) i := fun a ha hl j hj => by
  have hne : i ≠ a := by omega
  rw [List.length_set] at hl
  simp only [List.getElem_set, if_neg hne] at hj ⊢
  exact h a ha hl j hj
theorem Pj.set {lq : List (Sl × List Int)} {i j : Nat} (h : Pj lq i j) (hi : i < lq.length) : Pj (lq.set i (lq[i].1, lq[i].2.set j (200000 * (i : Int) + (j : Int)))) i (j + 1) := fun _ b hb hlt => by
  simp only [List.getElem_set_self, List.getElem_set, List.length_set] at hb ⊢
  split
  · rename_i he; subst he; rfl
  · exact h hi b hb (by omega)
theorem Pr.next {lq : List (Sl × List Int)} {i j : Nat} (h : Pr lq i) (hj : Pj lq i j) (hn : ∀ (hi : i < lq.length), lq[i].2.length ≤ j) : Pr lq (i + 1) := fun a ha hl b hb => by
  rcases Nat.lt_or_ge a i with hlt | hge
  · exact h a hlt hl b hb
  · obtain rfl : a = i := by omega
    exact hj hl b hb (Nat.lt_of_lt_of_le hb (hn hl))
def wgt (v : Int) (i : Nat) : Int := wrap64 (bits .and .i64 v 1 + bits .and .i64 (i : Int) 1)
def spW (i : Nat) (m : List S49) : List S49 := m.mapIdx (fun k p => if k < i then ⟨p.f0, p.f1, wgt p.f2 k, p.f3, p.f4, p.f5⟩ else p)
theorem spW_len (i : Nat) (m : List S49) : (spW i m).length = m.length := by simp [spW]
theorem spW_zero (m : List S49) : spW 0 m = m := by
  apply List.ext_getElem (by simp [spW])
  intro j h1 h2
  simp [spW]
theorem spW_at {i j : Nat} {m : List S49} (hj : j < m.length) : (spW i m)[j]? = some (if j < i then ⟨m[j].f0, m[j].f1, wgt m[j].f2 j, m[j].f3, m[j].f4, m[j].f5⟩ else m[j]) := by
  simp [spW, List.getElem?_mapIdx, List.getElem?_eq_getElem hj]
theorem spW_set {i : Nat} {m t : List S49} (hi : i < m.length) : (spW i m ++ t).set i ⟨m[i].f0, m[i].f1, wgt m[i].f2 i, m[i].f3, m[i].f4, m[i].f5⟩ = spW (i + 1) m ++ t := by
  rw [List.set_append_left _ _ (by rw [spW_len]; exact hi)]
  congr 1
  apply List.ext_getElem (by simp [spW])
  intro j h1 h2
  simp only [List.length_set, spW_len] at h1
  rw [List.getElem_set]
  have e1 := spW_at (i := i + 1) (m := m) h1
  have e0 := spW_at (i := i) (m := m) h1
  rw [List.getElem?_eq_getElem (by rw [spW_len]; exact h1)] at e1 e0
  injection e1 with e1
  injection e0 with e0
  rw [e1]
  split
  · rename_i he
    subst he
    rw [if_pos (by omega)]
  · rename_i he
    rw [e0]
    by_cases hc : j < i
    · rw [if_pos hc, if_pos (by omega)]
    · rw [if_neg hc, if_neg (by omega)]
end Go.Proofs.Ytmmjkebboonnkaa.P
