/- P.modelMemory_holds, part 26 of 37: the contracts of the Go functions that the law calls, its own walk, and its plain law, for every input that the statement speaks of. -/
import Derived.Test.YtanlnfcjdjamaaaMMe14
import Derived.Deep.MidRow
import Derived.Test.YtanlnfcjdjamaaaMMe2
set_option linter.unusedVariables false
set_option linter.unusedSimpArgs false
/- E7 -/
namespace Go.Proofs.Ytanlnfcjdjamaaa.P
open Go.RowKit Go.Proofs.YtanlnfcjdjamaaaW.PrintWords Go.Proofs.YtanlnfcjdjamaaaW.PrintLast Go.Proofs.YtanlnfcjdjamaaaW.PrintMore
theorem few_f (l : List S25) : larchlaw06_few.f l = some (l.take 300) := by
  unfold larchlaw06_few.f
  have h1 : (0 : Int) ≤ mn (l.length : Int) 300 := by unfold mn; split <;> omega
  have h2 : mn (l.length : Int) 300 ≤ (l.length : Int) := by unfold mn; split <;> omega
  have h3 : l.take (mn (l.length : Int) 300).toNat = l.take 300 := by
    unfold mn
    split
    · rfl
    · rw [Int.toNat_natCast, List.take_length, List.take_of_length_le (by omega)]
  rw [Option.bind_some, if_pos h1, if_pos h2, Option.bind_some, h3, if_pos (by simp; omega), List.nil_append]
theorem blk_range {W : World} {g : Nat} {t : TypeId} {cs : List Value} (h : W.heap[g]? = some (.cells cs.toArray t (0, 0))) : W.rangeAt g 0 cs := by
  intro j v hj
  rw [Nat.zero_add, blk_cell h]
  simpa using hj
theorem blk_there {W : World} {g : Nat} {t : TypeId} {cs : List Value} (h : W.heap[g]? = some (.cells cs.toArray t (0, 0))) {n : Nat} (hn : n ≤ cs.length) : W.there g 0 n := by
  intro j hj
  rw [Nat.zero_add]
  refine ⟨?_, blk_frozen h j⟩
  rw [blk_cell h]
  simp
  omega
theorem blk_fill {W : World} {g : Nat} {t : TypeId} {cs : Array Value} (h : W.heap[g]? = some (.cells cs t (0, 0))) {vs : List Value} (hl : vs.length = cs.size) : (W.setCells g 0 vs).heap[g]? = some (.cells vs.toArray t (0, 0)) := by
  obtain ⟨cur, h1, h2, h3⟩ := setCells_row vs 0 W cs h (by omega)
  rw [h1]
  have : cur = vs.toArray := by
    apply Array.toList_inj.1
    rw [h3, List.take_zero, List.nil_append, Nat.zero_add, List.drop_of_length_le (by rw [hl]; simp), List.append_nil]
  rw [this]
theorem fill_by (W : World) (g : Nat) (vs : List Value) : W.grownBy (W.setCells g 0 vs) (some g) := by
  obtain ⟨h1, h2, h3, h4⟩ := setCells_same g vs 0 W
  exact ⟨h1, h2, h3, by rw [h4]; exact Nat.le_refl _, fun k _ hn => setCells_far vs 0 k (fun he => hn (by rw [he]))⟩
theorem fill_below {w W : World} {g : Nat} {vs : List Value} (h : Below w.heap.size w W) (hg : w.heap.size ≤ g) : Below w.heap.size w (W.setCells g 0 vs) :=
  h.grown (fill_by W g vs) h.size (fun k hk => by injection hk with hk; omega)
set_option maxHeartbeats 60000000 in
set_option maxRecDepth 100000 in
theorem less_calls (A0 A1 A2 A3 : Option Addr) (c0 c1 c2 c3 : Nat) (l0 l1 : List S51) (l2 l3 : List S25) (v4 v5 v6 v7 : Int) (b : Bool) (v9 v10 : Int) (A4 : Option Addr) (n4 c4 : Nat) (v12 v13 : Int) (w : World)
    (h0 : l0.length ≤ c0) (h1 : l1.length ≤ c1) (hl0 : l0.length ≤ 9223372036854775807) (hl1 : l1.length ≤ 9223372036854775807) (h2 : l2.length ≤ c2) (h3 : l3.length ≤ c3) (hr2 : Kd.C k25 w A2 l2.length l2) (hr3 : Kd.C k25 w A3 l3.length l3) :
    Calls Try.prog 8 #[.agg #[.slice A0 l0.length c0, .slice A1 l1.length c1, .slice A2 l2.length c2, .slice A3 l3.length c3, .int .i64 v4, .int .i64 v5, .int .i64 v6, .int .i64 v7, .bool b, .int .i64 v9, .int .i64 v10, .slice A4 n4 c4, .int .i64 v12, .int .i64 v13]] w fun e w' =>
      ∃ n0 n1 B2 d2 B3 d3, e = .returned (.agg #[.slice A0 n0 c0, .slice A1 n1 c1, .slice B2 (l2.take 300).length d2, .slice B3 (l3.take 300).length d3, .int .i64 v4, .int .i64 v5, .int .i64 v6, .int .i64 v7, .bool b, .int .i64 v9, .int .i64 v10, .slice A4 n4 c4, .int .i64 v12, .int .i64 v13]) ∧
        n0 = min l0.length 300 ∧ n1 = min l1.length 300 ∧ Kd.R k25 25 w' w.heap.size (fun _ => True) (.slice B2 (l2.take 300).length d2) (l2.take 300) ∧ Kd.R k25 25 w' w.heap.size (fun _ => True) (.slice B3 (l3.take 300).length d3) (l3.take 300) ∧ Below w.heap.size w w' := by
  have hu25 := Try.underlying25
  have hu27 := Try.underlying27
  have hu51 := Try.underlying51
  have hu29 := Try.underlying29
  obtain ⟨n0, hn0⟩ : ∃ n0 : Nat, n0 = min l0.length 300 := ⟨_, rfl⟩
  obtain ⟨n1, hn1⟩ : ∃ n1 : Nat, n1 = min l1.length 300 := ⟨_, rfl⟩
  have e0 : (if 300 < (l0.length : Int) then 300 else (l0.length : Int)) = (n0 : Int) := by split <;> omega
  have e1 : (if 300 < (l1.length : Int) then 300 else (l1.length : Int)) = (n1 : Int) := by split <;> omega
  obtain ⟨i51, hi51, _, hsz51, _⟩ := info_parts info51
  have k0 := cut_to (P := Try.prog) 22 51 .i64 Try.underlying22 hi51 A0 l0.length c0 n0 (by omega) (by omega) h0
  have k1 := cut_to (P := Try.prog) 22 51 .i64 Try.underlying22 hi51 A1 l1.length c1 n1 (by omega) (by omega) h1
  rw [Int.toNat_natCast] at k0 k1
  have HN0 := Aside0.mk hn0
  have HN1 := Aside0.mk hn1
  clear hn0 hn1
  go_enter Try.func8, Try.ntmps8
  go_wp2
  go_region
  obtain ⟨Wd, hWd⟩ : ∃ Wd, Wd = ((w.alloc (.cells #[.slice A0 n0 c0, .slice A1 n1 c1, .slice A2 l2.length c2, .slice A3 l3.length c3, .int .i64 v4, .int .i64 v5, .int .i64 v6, .int .i64 v7, .bool b, .int .i64 v9, .int .i64 v10, .slice A4 n4 c4, .int .i64 v12, .int .i64 v13] 29)).alloc (.cells #[.slice none 0 0, .slice none 0 0, .slice none 0 0, .slice none 0 0, .int .i64 0, .int .i64 0, .int .i64 0, .int .i64 0, .bool false, .int .i64 0, .int .i64 0, .slice none 0 0, .int .i64 0, .int .i64 0] 29)).drew := ⟨_, rfl⟩
  have hB : Below w.heap.size w Wd := by rw [hWd]; exact below_drew1 (below_alloc (below_alloc (Below.refl _ _) _) _)
  have hX : Wd.heap[w.heap.size]? = some (.cells #[.slice A0 n0 c0, .slice A1 n1 c1, .slice A2 l2.length c2, .slice A3 l3.length c3, .int .i64 v4, .int .i64 v5, .int .i64 v6, .int .i64 v7, .bool b, .int .i64 v9, .int .i64 v10, .slice A4 n4 c4, .int .i64 v12, .int .i64 v13] 29 (0, 0)) := by
    rw [hWd]
    exact blk_below (blk_new w _) (below_drew1 (below_alloc (Below.refl _ _) _))
  have hZ : Wd.heap[w.heap.size + 1]? = some (.cells #[.slice none 0 0, .slice none 0 0, .slice none 0 0, .slice none 0 0, .int .i64 0, .int .i64 0, .int .i64 0, .int .i64 0, .bool false, .int .i64 0, .int .i64 0, .slice none 0 0, .int .i64 0, .int .i64 0] 29 (0, 0)) := by
    rw [hWd]
    have := blk_new (w.alloc (.cells #[.slice A0 n0 c0, .slice A1 n1 c1, .slice A2 l2.length c2, .slice A3 l3.length c3, .int .i64 v4, .int .i64 v5, .int .i64 v6, .int .i64 v7, .bool b, .int .i64 v9, .int .i64 v10, .slice A4 n4 c4, .int .i64 v12, .int .i64 v13] 29)) (.cells #[.slice none 0 0, .slice none 0 0, .slice none 0 0, .slice none 0 0, .int .i64 0, .int .i64 0, .int .i64 0, .int .i64 0, .bool false, .int .i64 0, .int .i64 0, .slice none 0 0, .int .i64 0, .int .i64 0] 29)
    rwa [show (w.alloc (.cells #[.slice A0 n0 c0, .slice A1 n1 c1, .slice A2 l2.length c2, .slice A3 l3.length c3, .int .i64 v4, .int .i64 v5, .int .i64 v6, .int .i64 v7, .bool b, .int .i64 v9, .int .i64 v10, .slice A4 n4 c4, .int .i64 v12, .int .i64 v13] 29)).heap.size = w.heap.size + 1 from by simp [World.alloc_eq]] at this
  rw [← hWd]
  have HB := Aside0.mk hB
  have HX := Aside0.mk hX
  have HZ := Aside0.mk hZ
  have x2 : Wd.cell? ⟨w.heap.size, 2, none⟩ = some (.slice A2 l2.length c2) := (blk_cell hX 2).trans rfl
  have x3 : Wd.cell? ⟨w.heap.size, 3, none⟩ = some (.slice A3 l3.length c3) := (blk_cell hX 3).trans rfl
  clear hWd hB hX hZ
  go_wp2
  go_region_with (first
    | (go_at_call 15; (with_reducible refine (larchlaw06_few.calls A2 c2 l2 _ Wd.drew (Kd.C_below hr2 (below_drew1 HB.out)) h2 (few_f l2)).mono ?_); rintro e w2 ⟨v2, rfl, ho2, hb2⟩; obtain ⟨B2, d2, rfl⟩ := Kd.R_slice ho2; have HO2 := Aside0.mk ho2; have HB2 := Aside0.mk hb2; have y2_ := pw_cell_below hb2 x2; have y3_ := pw_cell_below hb2 x3; clear ho2 hb2)
    | (go_at_call 15; (with_reducible refine (larchlaw06_few.calls A3 c3 l3 _ w2 (Kd.C_below hr3 (below_step (below_drew1 HB.out) HB2.out)) h3 (few_f l3)).mono ?_); rintro e w3 ⟨v3, rfl, ho3, hb3⟩; obtain ⟨B3, d3, rfl⟩ := Kd.R_slice ho3; have HO3 := Aside0.mk ho3; have HB3 := Aside0.mk hb3; have z2_ := pw_cell_below hb3 y2_; have z3_ := pw_cell_below hb3 y3_; have hx3 := blk_below (blk_below (blk_below HX.out (below_drew1 (Below.refl _ _))) HB2.out) hb3; have f2 := blk_frozen hx3 2; have f3 := blk_frozen hx3 3; clear hx3; clear ho3 hb3))
  all_goals
    have hx3 := blk_below (blk_below (blk_below HX.out (below_drew1 (Below.refl _ _))) HB2.out) HB3.out
    have hz3 := blk_below (blk_below (blk_below HZ.out (below_drew1 (Below.refl _ _))) HB2.out) HB3.out
    have hx5 := blk_put (blk_put hx3 2 (.slice B2 (min 300 l2.length) d2) rfl) 3 (.slice B3 (min 300 l3.length) d3) rfl
    replace hx5 : ((w3.setCell ⟨w.heap.size, 2, none⟩ (.slice B2 (min 300 l2.length) d2)).setCell ⟨w.heap.size, 3, none⟩ (.slice B3 (min 300 l3.length) d3)).heap[w.heap.size]? = some (.cells #[.slice A0 n0 c0, .slice A1 n1 c1, .slice B2 (min 300 l2.length) d2, .slice B3 (min 300 l3.length) d3, .int .i64 v4, .int .i64 v5, .int .i64 v6, .int .i64 v7, .bool b, .int .i64 v9, .int .i64 v10, .slice A4 n4 c4, .int .i64 v12, .int .i64 v13] 29 (0, 0)) := hx5
    have hB3 := below_step (below_step (below_drew1 HB.out) HB2.out) HB3.out
    have hlt : w.heap.size ≤ w.heap.size := Nat.le_refl _
    have hB5 : Below w.heap.size w ((w3.setCell ⟨w.heap.size, 2, none⟩ (.slice B2 (min 300 l2.length) d2)).setCell ⟨w.heap.size, 3, none⟩ (.slice B3 (min 300 l3.length) d3)) := below_set (below_set hB3 hlt) hlt
    have hO2 := Kd.R_lower (Kd.R_far (p := ⟨w.heap.size, 3, none⟩) (Kd.R_far (p := ⟨w.heap.size, 2, none⟩) (Kd.R_types (Kd.R_below HO2.out HB3.out) hx3 (by decide)) (fun _ hk => hk.2) (.slice B2 (min 300 l2.length) d2)) (fun _ hk => hk.2) (.slice B3 (min 300 l3.length) d3)) HB.out.size
    have hO3 := Kd.R_lower (Kd.R_far (p := ⟨w.heap.size, 3, none⟩) (Kd.R_far (p := ⟨w.heap.size, 2, none⟩) (Kd.R_types HO3.out hx3 (by decide)) (fun _ hk => hk.2) (.slice B2 (min 300 l2.length) d2)) (fun _ hk => hk.2) (.slice B3 (min 300 l3.length) d3)) (below_step (below_drew1 HB.out) HB2.out).size
    have hz5 : ((w3.setCell ⟨w.heap.size, 2, none⟩ (.slice B2 (min 300 l2.length) d2)).setCell ⟨w.heap.size, 3, none⟩ (.slice B3 (min 300 l3.length) d3)).heap[w.heap.size + 1]? = some (.cells #[.slice none 0 0, .slice none 0 0, .slice none 0 0, .slice none 0 0, .int .i64 0, .int .i64 0, .int .i64 0, .int .i64 0, .bool false, .int .i64 0, .int .i64 0, .slice none 0 0, .int .i64 0, .int .i64 0] 29 (0, 0)) := by
      rw [Below.heap_setCell _ _ _ _ (by simp), Below.heap_setCell _ _ _ _ (by simp)]
      exact hz3
    generalize (w3.setCell ⟨w.heap.size, 2, none⟩ (.slice B2 (min 300 l2.length) d2)).setCell ⟨w.heap.size, 3, none⟩ (.slice B3 (min 300 l3.length) d3) = W5 at hx5 hB5 hO2 hO3 hz5 ⊢
    have HX5 := Aside0.mk hx5
    have HZ5 := Aside0.mk hz5
    have HB5 := Aside0.mk hB5
    have H2 := Aside0.mk (Kd.R_types hO2 hz5 (by decide))
    have H3 := Aside0.mk (Kd.R_types hO3 hz5 (by decide))
    clear hx3 hz3 hx5 hB3 hlt hB5 hO2 hO3 hz5 x2 x3 f2 f3 z2_ z3_
    (try clear y2_ y3_)
    have S1 : Aside0 (W5.there (w.heap.size + 1) 0 (#[.slice A0 n0 c0, .slice A1 n1 c1, .slice B2 (min 300 l2.length) d2, .slice B3 (min 300 l3.length) d3, .int .i64 v4, .int .i64 v5, .int .i64 v6, .int .i64 v7, .bool b, .int .i64 v9, .int .i64 v10, .slice A4 n4 c4, .int .i64 v12, .int .i64 v13] : Array Value).size) := ⟨blk_there HZ5.out (Nat.le_refl _)⟩
    have S2 : Aside0 ((Try.prog.info? 29).map (·.size) = some (#[.slice A0 n0 c0, .slice A1 n1 c1, .slice B2 (min 300 l2.length) d2, .slice B3 (min 300 l3.length) d3, .int .i64 v4, .int .i64 v5, .int .i64 v6, .int .i64 v7, .bool b, .int .i64 v9, .int .i64 v10, .slice A4 n4 c4, .int .i64 v12, .int .i64 v13] : Array Value).size) := ⟨by kernel_rfl⟩
    have S3 : Aside0 ((#[.slice A0 n0 c0, .slice A1 n1 c1, .slice B2 (min 300 l2.length) d2, .slice B3 (min 300 l3.length) d3, .int .i64 v4, .int .i64 v5, .int .i64 v6, .int .i64 v7, .bool b, .int .i64 v9, .int .i64 v10, .slice A4 n4 c4, .int .i64 v12, .int .i64 v13] : Array Value).all (·.oneCell') = true) := ⟨by first | (simp [Value.oneCell']; done) | kernel_rfl⟩
    go_wp2_with (first
      | ((with_reducible refine gate_ (.load 29 (.tmp 1)) rfl ?_); (refine wpList_load_mid rfl 29 (.tmp 1) rfl w.heap.size 0 rfl [.slice A0 n0 c0, .slice A1 n1 c1, .slice B2 (min 300 l2.length) d2, .slice B3 (min 300 l3.length) d3, .int .i64 v4, .int .i64 v5, .int .i64 v6, .int .i64 v7, .bool b, .int .i64 v9, .int .i64 v10, .slice A4 n4 c4, .int .i64 v12, .int .i64 v13] _ (blk_range HX5.out) Try.underlying29 rfl (by kernel_rfl) ?_))
      | ((with_reducible refine gate_ (.store 29 (.tmp 2) (.tmp 27)) rfl ?_); (refine wpList_store_mid rfl 29 (.tmp 2) (.tmp 27) rfl (w.heap.size + 1) 0 #[.slice A0 n0 c0, .slice A1 n1 c1, .slice B2 (min 300 l2.length) d2, .slice B3 (min 300 l3.length) d3, .int .i64 v4, .int .i64 v5, .int .i64 v6, .int .i64 v7, .bool b, .int .i64 v9, .int .i64 v10, .slice A4 n4 c4, .int .i64 v12, .int .i64 v13] rfl rfl S1.out S2.out S3.out ?_)))
    have hl1 : w.heap.size ≤ w.heap.size + 1 := by omega
    have hfill := blk_fill HZ5.out (vs := (#[.slice A0 n0 c0, .slice A1 n1 c1, .slice B2 (min 300 l2.length) d2, .slice B3 (min 300 l3.length) d3, .int .i64 v4, .int .i64 v5, .int .i64 v6, .int .i64 v7, .bool b, .int .i64 v9, .int .i64 v10, .slice A4 n4 c4, .int .i64 v12, .int .i64 v13] : Array Value).toList) rfl
    have hby := fill_below HB5.out hl1 (vs := (#[.slice A0 n0 c0, .slice A1 n1 c1, .slice B2 (min 300 l2.length) d2, .slice B3 (min 300 l3.length) d3, .int .i64 v4, .int .i64 v5, .int .i64 v6, .int .i64 v7, .bool b, .int .i64 v9, .int .i64 v10, .slice A4 n4 c4, .int .i64 v12, .int .i64 v13] : Array Value).toList)
    have r2 := Kd.R_step (w1 := W5.setCells (w.heap.size + 1) 0 (#[.slice A0 n0 c0, .slice A1 n1 c1, .slice B2 (min 300 l2.length) d2, .slice B3 (min 300 l3.length) d3, .int .i64 v4, .int .i64 v5, .int .i64 v6, .int .i64 v7, .bool b, .int .i64 v9, .int .i64 v10, .slice A4 n4 c4, .int .i64 v12, .int .i64 v13] : Array Value).toList) H2.out (fun k ho _ => setCells_far _ 0 k ho.2)
    have r3 := Kd.R_step (w1 := W5.setCells (w.heap.size + 1) 0 (#[.slice A0 n0 c0, .slice A1 n1 c1, .slice B2 (min 300 l2.length) d2, .slice B3 (min 300 l3.length) d3, .int .i64 v4, .int .i64 v5, .int .i64 v6, .int .i64 v7, .bool b, .int .i64 v9, .int .i64 v10, .slice A4 n4 c4, .int .i64 v12, .int .i64 v13] : Array Value).toList) H3.out (fun k ho _ => setCells_far _ 0 k ho.2)
    refine bodyPost_ret (results_cell_row (p := 2) (ty := 29) rfl _ _ (w.heap.size + 1) 29 #[.slice A0 n0 c0, .slice A1 n1 c1, .slice B2 (min 300 l2.length) d2, .slice B3 (min 300 l3.length) d3, .int .i64 v4, .int .i64 v5, .int .i64 v6, .int .i64 v7, .bool b, .int .i64 v9, .int .i64 v10, .slice A4 n4 c4, .int .i64 v12, .int .i64 v13] (0, 0) _ rfl hfill Try.underlying29 rfl (by kernel_rfl)) (by rfl) ?_
    exact ⟨n0, n1, B2, d2, B3, d3, by simp, HN0.out, HN1.out, Kd.R_mono r2 (fun _ _ => trivial), Kd.R_mono r3 (fun _ _ => trivial), hby⟩
end Go.Proofs.Ytanlnfcjdjamaaa.P
