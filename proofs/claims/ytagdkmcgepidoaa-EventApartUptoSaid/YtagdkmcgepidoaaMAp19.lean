/- P.eventApart_holds, part 20 of 41: the contracts of the Go functions that the law calls, its own walk, and its plain law, for every input that the statement speaks of. -/
import Derived.Test.YtagdkmcgepidoaaMAp18
import Derived.Deep.RegionWith
set_option linter.unusedVariables false
set_option linter.unusedSimpArgs false
/- ED -/
namespace Go.Proofs.Ytagdkmcgepidoaa.P
open Go.RowKit Go.Proofs.YtagdkmcgepidoaaW.PrintWords Go.Proofs.YtagdkmcgepidoaaW.PrintLast Go.Proofs.YtagdkmcgepidoaaW.PrintMore
def cw (x : S38) (v : Value) : List Value := [.int .i64 x.f0, .int .i64 x.f1.f0, .int .i64 x.f1.f1, .int .i64 x.f1.f2, .int .i64 x.f1.f3, .bool x.f2.f0, .int .i64 x.f2.f1, .int .i64 x.f2.f2, v, .int .i64 x.f3, .int .i64 x.f4]
theorem cw_one (x : S38) (v : Value) (hv : v.oneCell' = true) : ∀ u ∈ cw x v, u.oneCell' = true := by
  intro u hu
  unfold cw at hu
  simp only [List.mem_cons, List.not_mem_nil, or_false] at hu
  rcases hu with rfl | rfl | rfl | rfl | rfl | rfl | rfl | rfl | rfl | rfl | rfl <;> first | rfl | exact hv
def IsSl (v : Value) : Prop := ∃ A n c, v = .slice A n c
theorem IsSl.one {v : Value} (h : IsSl v) : v.oneCell' = true := by obtain ⟨A, n, c, rfl⟩ := h; rfl
def kw : Kd S38 where
  sz := 11
  E := []
  K := fun _ x cs => ∃ v : Value, IsSl v ∧ cs = cw x v
  M := fun _ _ _ x cs => ∃ v : Value, IsSl v ∧ cs = cw x v
  K_len := by rintro w x cs ⟨v, _, rfl⟩; rfl
  K_one := by rintro w x cs ⟨v, hv, rfl⟩; exact cw_one x v hv.one
  K_below := fun _ h => h
  K_of_M := fun h => h
  M_mono := fun _ h => h
  M_bound := fun h => h
  M_move := fun _ h => h
  M_lower := fun _ h => h
theorem kw_of_S {e : Nat} {w : World} {base : Nat} {ok : Nat → Prop} {v : Value} {xs : List S38} (h : Kd.S k38 e w base ok v xs) : Kd.R kw e w base ok v xs := by
  refine Kd.R_imp (d := k38) (d' := kw) rfl (fun w base ok x cs hM => ?_) (Kd.S_R h)
  obtain ⟨v8, rfl, h8⟩ := k38_openM hM
  obtain ⟨A, c, rfl⟩ := Kd.R_slice h8
  exact ⟨_, ⟨_, _, _, rfl⟩, rfl⟩
theorem at_Tw {w : World} {A : Option Addr} {n : Nat} {xs : List S38} (h : Kd.C kw w A n xs) (i : Int) (h0 : 0 ≤ i) (h1 : i < n) : ∃ ad v, A = some ad ∧ IsSl v ∧ (∀ j u, (cw (J38 xs i) v)[j]? = some u → w.cell? (ad.add (i.toNat * 11 + j)) = some u) ∧ w.cell? (ad.add (i.toNat * 11)) = some (.int .i64 (J38 xs i).f0) ∧ w.cell? ⟨(ad.add (i.toNat * 11)).block, (ad.add (i.toNat * 11)).off + 1, none⟩ = some (.int .i64 (J38 xs i).f1.f0) ∧ w.cell? ⟨(ad.add (i.toNat * 11)).block, (ad.add (i.toNat * 11)).off + 2, none⟩ = some (.int .i64 (J38 xs i).f1.f1) ∧ w.cell? ⟨(ad.add (i.toNat * 11)).block, (ad.add (i.toNat * 11)).off + 3, none⟩ = some (.int .i64 (J38 xs i).f1.f2) ∧ w.cell? ⟨(ad.add (i.toNat * 11)).block, (ad.add (i.toNat * 11)).off + 4, none⟩ = some (.int .i64 (J38 xs i).f1.f3) ∧ w.cell? ⟨(ad.add (i.toNat * 11)).block, (ad.add (i.toNat * 11)).off + 5, none⟩ = some (.bool (J38 xs i).f2.f0) ∧ w.cell? ⟨(ad.add (i.toNat * 11)).block, (ad.add (i.toNat * 11)).off + 6, none⟩ = some (.int .i64 (J38 xs i).f2.f1) ∧ w.cell? ⟨(ad.add (i.toNat * 11)).block, (ad.add (i.toNat * 11)).off + 7, none⟩ = some (.int .i64 (J38 xs i).f2.f2) ∧ w.cell? ⟨(ad.add (i.toNat * 11)).block, (ad.add (i.toNat * 11)).off + 8, none⟩ = some v ∧ w.cell? ⟨(ad.add (i.toNat * 11)).block, (ad.add (i.toNat * 11)).off + 9, none⟩ = some (.int .i64 (J38 xs i).f3) ∧ w.cell? ⟨(ad.add (i.toNat * 11)).block, (ad.add (i.toNat * 11)).off + 10, none⟩ = some (.int .i64 (J38 xs i).f4) := by
  obtain ⟨ad, c, e, _, ⟨v, hv, rfl⟩, hc0⟩ := Kd.C_get h z38 i h0 h1
  have hc : ∀ j u, (cw (J38 xs i) v)[j]? = some u → w.cell? (ad.add (i.toNat * 11 + j)) = some u := hc0
  exact ⟨ad, v, e, hv, hc, hc 0 _ rfl, by rw [← add_field _ _ 1 (by omega)]; exact hc 1 _ rfl, by rw [← add_field _ _ 2 (by omega)]; exact hc 2 _ rfl, by rw [← add_field _ _ 3 (by omega)]; exact hc 3 _ rfl, by rw [← add_field _ _ 4 (by omega)]; exact hc 4 _ rfl, by rw [← add_field _ _ 5 (by omega)]; exact hc 5 _ rfl, by rw [← add_field _ _ 6 (by omega)]; exact hc 6 _ rfl, by rw [← add_field _ _ 7 (by omega)]; exact hc 7 _ rfl, by rw [← add_field _ _ 8 (by omega)]; exact hc 8 _ rfl, by rw [← add_field _ _ 9 (by omega)]; exact hc 9 _ rfl, by rw [← add_field _ _ 10 (by omega)]; exact hc 10 _ rfl⟩
theorem kw_tail {e g n m cap : Nat} {w : World} {base : Nat} {ok : Nat → Prop} {xs : List S38} (h : Kd.R kw e w base ok (.slice (some ⟨g, 0, none⟩) n cap) xs) (hm : m ≤ xs.length) (vs : List Value) (hvs : m * 11 + vs.length ≤ n * 11) :
    Kd.R kw e (w.setCells g (m * 11) vs) base ok (.slice (some ⟨g, 0, none⟩) m cap) (xs.take m) ∧ w.grownBy (w.setCells g (m * 11) vs) (some g) := by
  have hn := (Kd.R_reads' h).1
  obtain ⟨h0, inner, ho, hr⟩ := Kd.R_take h hm
  have hlen : (xs.take m).length = m := by rw [List.length_take]; omega
  rw [hlen] at ho
  obtain ⟨ho1, ho2⟩ := ho
  obtain ⟨_, inner0, hoo, _⟩ := h
  rcases ho2 with ⟨hv, _⟩ | ⟨g', cap', cur, hv, hb, hh, hnc', hcm, hcs, ht⟩
  · cases hv
  injection hv with ha _ hc
  injection ha with ha
  injection ha with hg
  subst hg; subst hc
  have hcap : n ≤ cap := by
    rcases hoo.2 with ⟨hv, _⟩ | ⟨g'', cap'', cur'', hv, _, _, hnc'', _, _, _⟩
    · cases hv
    · injection hv with _ hnn hcc
      omega
  have hcs' : cur.size = cap * 11 := hcs
  obtain ⟨cur', h3, h4, h5⟩ := setCells_row vs (m * 11) w cur hh (by omega)
  obtain ⟨s1, s2, s3, s4⟩ := setCells_same g vs (m * 11) w
  have hcl : m * 11 ≤ cur.toList.length := by rw [Array.length_toList]; omega
  refine ⟨⟨h0, inner, ⟨by rw [hlen]; exact ho1, .inr ⟨g, cap, cur', by rw [hlen], hb, h3, by rw [hlen]; omega, hcm, by rw [h4]; exact hcs, ?_⟩⟩, hr⟩, ⟨s1, s2, s3, by rw [s4]; exact Nat.le_refl _, fun k _ hk => setCells_far vs _ k (fun he => hk (by rw [he]))⟩⟩
  rw [hlen, h5, List.append_assoc, show m * kw.sz = m * 11 from rfl, List.take_append_of_le_length (by rw [List.length_take]; omega), List.take_take, Nat.min_self]
  exact ht
theorem kw_cells {e g n cap : Nat} {w : World} {base : Nat} {ok : Nat → Prop} {xs : List S38} (h : Kd.R kw e w base ok (.slice (some ⟨g, 0, none⟩) n cap) xs) (q : Nat) (hq : q < n * 11) : (w.cell? ⟨g, q, none⟩).isSome = true ∧ w.frozen? ⟨g, q, none⟩ = false := by
  obtain ⟨_, inner, ho, _⟩ := h
  rcases ho.2 with ⟨hv, _⟩ | ⟨g', cap', cur, hv, hb, hh, hnc', hcm, hcs, ht⟩
  · cases hv
  injection hv with ha hn hc
  injection ha with ha
  injection ha with hg
  subst hg; subst hc
  have hcs' : cur.size = cap * 11 := hcs
  rw [blk_cell hh, Array.getElem?_eq_getElem (by omega)]
  exact ⟨rfl, blk_frozen hh _⟩
theorem run_clear_cells {P : Program} (w : World) (t e ty : TypeId) (z : Value) (ht : P.underlying t = some (.slice e)) (hv : ∀ w, (zeroValue e).run P w = .ok z w) (h1 : ∀ v ∈ z.cells.toList, v.oneCell' = true) (hz : 0 < z.cells.size) (b o n c : Nat) (hn : 0 < n)
    (hc : ∀ j, j < n * z.cells.size → (w.cell? ⟨b, o + j, none⟩).isSome = true) (hf : ∀ j, j < n * z.cells.size → w.frozen? ⟨b, o + j, none⟩ = false) :
    ∃ vs : List Value, vs.length = n * z.cells.size ∧ (Builtin.clear_ #[t] ty #[.slice (some ⟨b, o, none⟩) n c]).run P w = .ok (.tuple #[]) (w.setCells b o vs) := by
  refine ⟨(Builtin.zeroCells z.cells n).toList, by simp [Builtin.zeroCells], ?_⟩
  have hl : (Builtin.zeroCells z.cells n).toList.length = n * z.cells.size := by simp [Builtin.zeroCells]
  have hst := run_storeCells_cells (P := P) b o (Builtin.zeroCells z.cells n).toList 0 w (by rw [hl]; simpa using hc) (by rw [hl]; simpa using hf) (by
    intro v hv'
    simp only [Builtin.zeroCells, Array.toList_map, List.mem_map] at hv'
    obtain ⟨i, _, rfl⟩ := hv'
    have hi : i % z.cells.size < z.cells.size := Nat.mod_lt _ hz
    rw [getElem!_pos z.cells _ hi]
    exact h1 _ (by simp))
  simp only [Nat.add_zero] at hst
  obtain ⟨m, rfl⟩ : ∃ m, n = m + 1 := ⟨n - 1, by omega⟩
  simp [Builtin.clear_, run_underlying ht, hv, hst]
def donL (xs : List S38) : List S38 := xs.filter fun x => !pendB x
theorem idx_some (xs : List S38) : ∀ d j r, j + d = xs.length → idxGo xs d j = r → r ≠ -1 → ∃ k : Nat, r = (k : Int) ∧ j ≤ k ∧ k < xs.length ∧ pendB (J38 xs (k : Int)) = true ∧ ∀ i, j ≤ i → i < k → pendB (J38 xs (i : Int)) = false
  | 0, j, r, _, hr, h => by simp only [idxGo] at hr; omega
  | d + 1, j, r, hd, hr, h => by
    simp only [idxGo] at hr
    by_cases hp : pendB (J38 xs (j : Int)) = true
    · rw [if_pos hp] at hr
      exact ⟨j, hr.symm, Nat.le_refl _, by omega, hp, fun i a b => by omega⟩
    · rw [if_neg hp] at hr
      obtain ⟨k, h1, h2, h3, h4, h5⟩ := idx_some xs d (j + 1) r (by omega) hr h
      refine ⟨k, h1, by omega, h3, h4, fun i a b => ?_⟩
      by_cases e : i = j
      · rw [e]; simpa using hp
      · exact h5 i (by omega) b
theorem idx_none (xs : List S38) : ∀ d j, j + d = xs.length → idxGo xs d j = -1 → ∀ i, j ≤ i → i < xs.length → pendB (J38 xs (i : Int)) = false
  | 0, j, hd, _, i, a, b => by omega
  | d + 1, j, hd, h, i, a, b => by
    simp only [idxGo] at h
    by_cases hp : pendB (J38 xs (j : Int)) = true
    · rw [if_pos hp] at h; omega
    · rw [if_neg hp] at h
      by_cases e : i = j
      · rw [e]; simpa using hp
      · exact idx_none xs d (j + 1) (by omega) h i (by omega) b
theorem rd38_get (xs : List S38) (j : Nat) (h : j < xs.length) : xs[j] = J38 xs (j : Int) := by
  unfold J38
  rw [Int.toNat_natCast, List.getD_eq_getElem?_getD, List.getElem?_eq_getElem h]
  rfl
theorem don_take (xs : List S38) (j : Nat) (h : j < xs.length) : donL (xs.take (j + 1)) = donL (xs.take j) ++ (if pendB (J38 xs (j : Int)) = true then [] else [J38 xs (j : Int)]) := by
  unfold donL
  rw [List.take_succ_eq_append_getElem h, List.filter_append, rd38_get xs j h]
  congr 1
  cases hp : pendB (J38 xs (j : Int)) <;> simp [hp]
theorem don_all (xs : List S38) (h : ∀ i, i < xs.length → pendB (J38 xs (i : Int)) = false) : donL xs = xs := by
  unfold donL
  rw [List.filter_eq_self]
  intro a ha
  obtain ⟨i, hi, rfl⟩ := List.mem_iff_getElem.1 ha
  rw [rd38_get xs i hi, h i hi]
  rfl
def z38v : Value := .agg #[(.int .i64 0), (.int .i64 0), (.int .i64 0), (.int .i64 0), (.int .i64 0), (.bool false), (.int .i64 0), (.int .i64 0), (.slice none 0 0), (.int .i64 0), (.int .i64 0)]
theorem size38 : (Try.prog.info? 38).map (·.size) = some 11 := by kernel_rfl
theorem zero38 (w : World) : (zeroValue 38).run Try.prog w = .ok z38v w := by
  obtain ⟨i, hi, h⟩ := Option.map_eq_some_iff.1 info38
  simp only [Prod.mk.injEq] at h
  simp [zeroValue, typeInfo, hi, h.1, z38v]
theorem al2 {base : Nat} {w W : World} (hbw : base ≤ w.heap.size) (h : Below base w W) (o o' : Obj) : Below base w ((W.alloc o).alloc o') := (h.alloc (by have := h.size; omega) o).alloc (by have := h.size; have := (below_alloc (Below.refl W.heap.size W) o).size; omega) o'
theorem set_take (L : List S38) (i : Nat) (x : S38) (h : i < L.length) : (L.set i x).take (i + 1) = L.take i ++ [x] := by
  rw [List.take_succ_eq_append_getElem (by rw [List.length_set]; exact h), List.getElem_set_self, List.take_set_of_le (Nat.le_refl _)]
set_option maxHeartbeats 2000000 in
set_option maxRecDepth 100000 in
theorem delete_calls (g c0 base : Nat) (xs : List S38) (w : World) (hr0 : Kd.C k38 w (some ⟨g, 0, none⟩) xs.length xs) (hR : Kd.R kw 38 w base (fun _ => True) (.slice (some ⟨g, 0, none⟩) xs.length c0) xs) (hbw : base ≤ w.heap.size) (hn : idxGo xs xs.length 0 ≠ -1) :
    Calls Try.prog 50 #[.slice (some ⟨g, 0, none⟩) xs.length c0, .func (.func 51) #[] #[]] w fun e w' => e = .returned (.slice (some ⟨g, 0, none⟩) (donL xs).length c0) ∧ Kd.R kw 38 w' base (fun _ => True) (.slice (some ⟨g, 0, none⟩) (donL xs).length c0) (donL xs) ∧ Below base w w' := by
  have hu38 := Try.underlying38
  have hgw : base ≤ g := Kd.R_base hR g (by simp [Value.ownBlock])
  obtain ⟨k0, hk, -, hk1, hkp, hkn⟩ := idx_some xs xs.length 0 _ (by omega) rfl hn
  have hne1 : ((k0 : Int) == -1) = false := beq_eq_false_iff_ne.2 (by omega)
  have hmx : xs.length ≤ 9223372036854775807 := hr0.2.1
  have HS : Aside0 (donL (xs.take (k0 + 1)) = xs.take k0) := ⟨by
    rw [don_take xs k0 hk1, if_pos hkp, List.append_nil]
    refine don_all _ fun i hi => ?_
    rw [List.length_take] at hi
    have : J38 (xs.take k0) (i : Int) = J38 xs (i : Int) := by
      unfold J38
      rw [Int.toNat_natCast, List.getD_eq_getElem?_getD, List.getD_eq_getElem?_getD, List.getElem?_take, if_pos (by omega)]
    rw [this]
    exact hkn i (by omega) (by omega)⟩
  clear hkp hkn hn
  go_enter Try.func50, Try.ntmps50
  go_wp2_with (go_at_call 70; refine (index_calls _ c0 xs w hr0).mono ?_; rintro e w1 ⟨rfl, hb1⟩; rw [hk]; have HR1 := Aside0.mk (Kd.R_below hR hb1); have HB1 : Aside0 (Below base w w1) := ⟨hb1.mono hbw⟩; clear hb1)
  go_loopw [5, 6] (fun v5 v6 W => ∃ (i j : Nat) (L : List S38), v5 = .int .i64 (i : Int) ∧ v6 = .int .i64 (j : Int) ∧ i < j ∧ j ≤ xs.length ∧ Aside0 (L.length = xs.length) ∧ Aside0 (L.take i = donL (xs.take j)) ∧ Aside0 (L.drop j = xs.drop j) ∧ Aside0 (Kd.R kw 38 W base (fun _ => True) (.slice (some ⟨g, 0, none⟩) xs.length c0) L) ∧ Aside0 (Below base w W)) (fun _ v6 _ => xs.length - (intOf v6).toNat)
  case atStart => exact ⟨k0, k0 + 1, xs, rfl, by go_num, by omega, by omega, ⟨rfl⟩, ⟨HS.out.symm⟩, ⟨rfl⟩, HR1, HB1⟩
  case round =>
    obtain ⟨i, j, L, rfl, rfl, hij, hj, HL, HA, HD, HR, HB⟩ := hrel
    have hLn := HL.out
    by_cases hlt : j < xs.length
    · obtain ⟨ad, v, ea, ⟨A8, n8, c8, rfl⟩, -, y0, y1, y2, y3, y4, y5, y6, y7, y8, y9, y10⟩ := at_Tw (Kd.R_reads' HR.out).2.2 (j : Int) (by omega) (by omega)
      cases ea
      obtain ⟨ad, v', ea, -, hcc, -⟩ := at_Tw (Kd.R_reads' HR.out).2.2 (i : Int) (by omega) (by omega)
      cases ea
      obtain ⟨x, hx⟩ : ∃ x, x = J38 L (j : Int) := ⟨_, rfl⟩
      rw [← hx] at y0 y1 y2 y3 y4 y5 y6 y7 y9 y10
      simp only [Int.toNat_natCast, add_plain] at y0 y1 y2 y3 y4 y5 y6 y7 y8 y9 y10 hcc
      have hx' : x = J38 xs (j : Int) := by
        rw [hx, ← rd38_get L j (by omega), ← rd38_get xs j hlt]
        have := congrArg (fun l => l[0]?) HD.out
        simpa [List.getElem?_drop, List.getElem?_eq_getElem, hlt, hLn] using this
      have NX := Aside0.mk hx'
      clear hx hx'
      obtain ⟨b, hb⟩ : ∃ b, pendB x = b := ⟨_, rfl⟩
      have NB := Aside0.mk hb
      clear hb
      have HD' : Aside0 (L.drop (j + 1) = xs.drop (j + 1)) := ⟨by
        have := congrArg (List.drop 1) HD.out
        simpa [List.drop_drop] using this⟩
      cases b with
      | true =>
        go_wp2_with (go_at_call 51; refine (pend_calls x _ _).mono ?_; rintro e w' ⟨rfl, rfl⟩; rw [NB.out])
        go_roundw
        case rel => exact ⟨i, j + 1, L, rfl, by go_num, by omega, by omega, HL, ⟨by rw [HA.out, don_take xs j hlt, ← NX.out, if_pos NB.out, List.append_nil]⟩, HD', ⟨Kd.R_alloc (Kd.R_alloc HR.out _) _⟩, ⟨al2 hbw HB.out _ _⟩⟩
        case measure => simp [intOf]; omega
      | false =>
        go_wp2_with (first
          | (go_at_call 51; refine (pend_calls x _ _).mono ?_; rintro e w' ⟨rfl, rfl⟩; rw [NB.out])
          | ((with_reducible refine gate_store (t := 38) (p := 33) rfl ?_); go_loud (refine Kd.R_store kw base (w0 := w) rfl rfl 38 _ _ rfl 38 (g := g) (n := xs.length) (cap := c0) (o' := i * 11) (i : Int) 0 L x _ (cw x (.slice A8 n8 c8)) (cw (J38 L (i : Int)) v') (fun _ => True) (fun _ => False) rfl (by rw [Int.toNat_natCast]; rfl) rfl rfl ?ht (cw_one x _ rfl) (Kd.R_alloc (Kd.R_alloc HR.out _) _) (by omega) (by omega) rfl (fun q u hq => by rw [Int.toNat_natCast]; exact pw_cell_below (below_alloc (below_alloc (Below.refl _ _) _) _) (hcc q u hq)) (show 0 + 11 ≤ 11 by decide) ⟨_, ⟨_, _, _, rfl⟩, rfl⟩ (fun _ h => h.elim) (al2 hbw HB.out _ _) ?_; (case ht => exact size38); intro w9 hR9 hB9 hg9; have HR9 := Aside0.mk hR9; have HB9 := Aside0.mk hB9; clear hR9 hB9 hg9)))
        go_roundw
        case rel => exact ⟨i + 1, j + 1, L.set i x, by go_num, by go_num, by omega, by omega, ⟨by rw [List.length_set]; exact hLn⟩, ⟨by rw [set_take L i x (by omega), HA.out, don_take xs j hlt, ← NX.out, if_neg (by rw [NB.out]; decide)]⟩, ⟨by rw [List.drop_set_of_lt (by omega)]; exact HD'.out⟩, HR9, HB9⟩
        case measure => simp [intOf]; omega
    · obtain rfl : j = xs.length := by omega
      have hc0 : xs.length ≤ c0 := (Kd.R_reads' HR.out).2.1
      obtain ⟨vs, hvl, hcl⟩ := run_clear_cells (P := Try.prog) wr 24 38 0 z38v Try.underlying24 zero38 (by decide) (by decide) g (i * 11) (xs.length - i) (c0 - i) (by omega) (fun q hq => (kw_cells HR.out _ (by have hq : q < (xs.length - i) * 11 := hq; omega)).1) (fun q hq => (kw_cells HR.out _ (by have hq : q < (xs.length - i) * 11 := hq; omega)).2)
      have hvl' : vs.length = (xs.length - i) * 11 := hvl
      obtain ⟨hT, hG⟩ := kw_tail (m := i) HR.out (by omega) vs (by omega)
      have HT := Aside0.mk hT
      have HG := Aside0.mk hG
      clear hT hG hvl hvl'
      go_wp2
      go_ret
      have hi : i = (donL xs).length := by
        have := congrArg List.length HA.out
        rw [List.length_take, List.take_length] at this
        omega
      have hL : L.take i = donL xs := by rw [HA.out, List.take_length]
      have h9 := HT.out
      rw [hL] at h9
      refine ⟨by rw [← hi]; rfl, by rw [← hi]; exact h9, HB.out.grown HG.out (by have := HB.out.size; omega) (fun k hk => by cases hk; exact hgw)⟩
end Go.Proofs.Ytagdkmcgepidoaa.P
