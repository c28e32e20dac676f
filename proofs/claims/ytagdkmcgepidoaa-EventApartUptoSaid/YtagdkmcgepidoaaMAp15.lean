/- P.eventApart_holds, part 16 of 41: the contracts of the Go functions that the law calls, its own walk, and its plain law, for every input that the statement speaks of. -/
import Derived.Laws.IdiomCopy
import Derived.Test.YtagdkmcgepidoaaMAp2
import Derived.Test.YtagdkmcgepidoaaMAp14
set_option linter.unusedVariables false
set_option linter.unusedSimpArgs false
/- E17 -/
namespace Go.Proofs.Ytagdkmcgepidoaa.P
open Go.RowKit Go.Proofs.YtagdkmcgepidoaaW.PrintWords Go.Proofs.YtagdkmcgepidoaaW.PrintLast Go.Proofs.YtagdkmcgepidoaaW.PrintMore
structure Chg (w w' : World) (ok : Nat → Prop) : Prop where
  os : w'.os = w.os
  tape : w'.tape = w.tape
  output : w'.output = w.output
  size : w.heap.size ≤ w'.heap.size
  block : ∀ k, k < w.heap.size → ¬ ok k → w'.heap[k]? = w.heap[k]?
theorem Chg.refl (w : World) (ok : Nat → Prop) : Chg w w ok := ⟨rfl, rfl, rfl, Nat.le_refl _, fun _ _ _ => rfl⟩
theorem Chg.trans {a b c : World} {ok : Nat → Prop} (h : Chg a b ok) (k : Chg b c ok) : Chg a c ok :=
  ⟨k.os.trans h.os, k.tape.trans h.tape, k.output.trans h.output, Nat.le_trans h.size k.size, fun i hi hn => (k.block i (Nat.lt_of_lt_of_le hi h.size) hn).trans (h.block i hi hn)⟩
theorem Chg.mono {a b : World} {ok ok' : Nat → Prop} (h : Chg a b ok) (ho : ∀ k, ok k → ok' k) : Chg a b ok' := ⟨h.os, h.tape, h.output, h.size, fun i hi hn => h.block i hi (fun hk => hn (ho i hk))⟩
theorem Chg.drew {a b : World} {ok : Nat → Prop} (h : Chg a b ok) : Chg a b.drew ok := ⟨h.os, h.tape, h.output, h.size, h.block⟩
theorem Chg.set (W : World) {p : Addr} {ok : Nat → Prop} (hp : ok p.block) (u : Value) : Chg W (W.setCell p u) ok :=
  ⟨rfl, rfl, rfl, by simp [World.setCell], fun k _ hk => Below.heap_setCell _ _ _ _ (fun e => hk (e ▸ hp))⟩
theorem Chg.of_below {a b : World} (h : Below a.heap.size a b) (ok : Nat → Prop) : Chg a b ok := ⟨h.os, h.tape, h.output, h.size, fun i hi _ => h.block i hi⟩
theorem Chg.to_below {a b w0 : World} {B : Nat} {ok : Nat → Prop} (h : Chg a b ok) (hb : Below B w0 a) (hB : B ≤ a.heap.size) (hok : ∀ k, ok k → B ≤ k) : Below B w0 b :=
  hb.trans ⟨h.os, h.tape, h.output, h.size, fun k hk => h.block k (by omega) (fun hk2 => by have := hok k hk2; omega)⟩
theorem Chg.S {α : Type} {d : Kd α} {e base : Nat} {w w' : World} {ok ok' : Nat → Prop} {v : Value} {xs : List α} (hc : Chg w w' ok') (h : Kd.S d e w base ok v xs) (hne : ∀ k, ok k → base ≤ k → ¬ ok' k) : Kd.S d e w' base ok v xs :=
  Kd.S_mono (Kd.S_move (Kd.S_bound h) (fun k hk => hc.block k hk.2.2.1 (hne k hk.1 hk.2.1))) (fun _ hk => hk.1)
theorem H_step {α : Type} {d : Kd α} {e : Nat} {w w1 : World} {base : Nat} {ok oki : Nat → Prop} {v : Value} {xs : List α} {i : Int} {c : List Value} (h : Kd.H d e w base ok v xs i oki c) (hm : ∀ k, ok k → ¬ oki k → k < w.heap.size → w1.heap[k]? = w.heap[k]?) : Kd.H d e w1 base ok v xs i oki c := by
  obtain ⟨ho, f, h⟩ := h
  exact ⟨ho, f, Kd.R_step h (fun k hk hl => hm k hk.1 hk.2 hl)⟩
def shp67 (xs : List S67) : List Nat := xs.map fun e => e.f3.f3.length
def shp38 (xs : List S38) : List Nat := xs.map fun e => e.f2.f3.length
theorem map_set_same {α β : Type} (f : α → β) (xs : List α) (z : α) (j : Nat) (x' : α) (h : f x' = f (xs.getD j z)) : (xs.set j x').map f = xs.map f := by
  apply List.ext_getElem (by simp)
  intro i h1 h2
  simp only [List.getElem_map, List.getElem_set]
  split
  · rename_i he
    subst he
    simp only [List.length_map] at h2
    rw [h, List.getD_eq_getElem?_getD, List.getElem?_eq_getElem h2]
    rfl
  · rfl
theorem ev_flat {g n cap base : Nat} {W : World} {ok : Nat → Prop} {xs : List S67} (h : Kd.S k67 67 W base ok (.slice (some ⟨g, 0, none⟩) n cap) xs) (j : Nat) (hj : j < n) (u : Int) :
    ∃ ys, shp67 ys = shp67 xs ∧ Kd.S k67 67 (W.setCell ⟨g, j * 10 + 4, none⟩ (.int .i64 u)) base ok (.slice (some ⟨g, 0, none⟩) n cap) ys := by
  obtain ⟨oki, c, hcl, hM, hcc, hfr, hoki, hH⟩ := Kd.S_elem (Kd.S_mono h (fun k hk => (⟨hk, fun hf => hf⟩ : ok k ∧ ¬ False))) z67 (j : Int) (by omega) (by omega)
  rw [Int.toNat_natCast] at hM
  obtain ⟨v9, rfl, hv9⟩ := k67_openM hM
  obtain ⟨h1, h2⟩ := Kd.S_seg (okg := fun _ => False) hH (by omega) (by omega) (seg := [.int .i64 u]) (j := 4) (x' := { xs.getD j z67 with f2 := { (xs.getD j z67).f2 with f2 := u } }) (okp := oki) (by show 4 + 1 ≤ 10; decide) (k67_mkM W base oki { xs.getD j z67 with f2 := { (xs.getD j z67).f2 with f2 := u } } hv9) (fun k hk => .inl hk) (fun k hk => hk.elim)
  rw [Int.toNat_natCast] at h1
  exact ⟨xs.set j { xs.getD j z67 with f2 := { (xs.getD j z67).f2 with f2 := u } }, map_set_same _ xs z67 j _ rfl, h1⟩
theorem ev_row {g n cap base : Nat} {W : World} {ok : Nat → Prop} {xs : List S67} (h : Kd.S k67 67 W base ok (.slice (some ⟨g, 0, none⟩) n cap) xs) (j : Nat) (hj : j < n) :
    ∃ (A9 : Option Addr) (c9 : Nat), W.cell? ⟨g, j * 10 + 4, none⟩ = some (.int .i64 (J67 xs (j : Int)).f2.f2) ∧ W.frozen? ⟨g, j * 10 + 4, none⟩ = false ∧ W.cell? ⟨g, j * 10 + 9, none⟩ = some (.slice A9 (J67 xs (j : Int)).f3.f3.length c9) ∧ (J67 xs (j : Int)).f3.f3.length ≤ 9223372036854775807 ∧
    ∀ m : Nat, m < (J67 xs (j : Int)).f3.f3.length → ∃ g9, A9 = some ⟨g9, 0, none⟩ ∧ ok g9 ∧ (∃ a, W.cell? ⟨g9, m * 2 + 1, none⟩ = some (.int .i64 a)) ∧ W.frozen? ⟨g9, m * 2 + 1, none⟩ = false ∧
      ∀ u : Int, ∃ ys, shp67 ys = shp67 xs ∧ Kd.S k67 67 (W.setCell ⟨g9, m * 2 + 1, none⟩ (.int .i64 u)) base ok (.slice (some ⟨g, 0, none⟩) n cap) ys := by
  obtain ⟨oki, c, hcl, hM, hcc, hfr, hoki, hH⟩ := Kd.S_elem h z67 (j : Int) (by omega) (by omega)
  rw [show xs.getD (j : Int).toNat z67 = J67 xs (j : Int) from rfl] at hM
  simp only [Int.toNat_natCast, show k67.sz = 10 from rfl] at hcc hfr
  obtain ⟨v9, rfl, hv9⟩ := k67_openM hM
  obtain ⟨A9, c9, rfl⟩ := Kd.R_slice hv9
  refine ⟨A9, c9, hcc 4 _ rfl, hfr 4, hcc 9 _ rfl, (Kd.R_reads' hv9).2.2.2.1, fun m hm => ?_⟩
  obtain ⟨g9, cap9, e9, -⟩ := Kd.R_form hv9 (by omega)
  injection e9 with e9 _ _
  subst e9
  have ho9 : oki g9 := hv9.1 g9 (by simp [Value.ownBlock])
  obtain ⟨cp, hpl, hpM, hpc, hpf⟩ := Kd.R_elem hv9 z70 (m : Int) (by omega) (by omega)
  simp only [Int.toNat_natCast, show k70.sz = 2 from rfl] at hpc hpf hpM
  have hcp := k70_open (k70.K_of_M (w := W) (base := base) (ok := oki) hpM)
  subst hcp
  refine ⟨g9, rfl, (hoki g9 ho9).1, ⟨_, hpc 1 _ rfl⟩, hpf 1, fun u => ?_⟩
  obtain ⟨h1, h2⟩ := Kd.R_seg hv9 (m : Int) (by omega) (by omega) (c := [.int .i64 ((J67 xs (j : Int)).f3.f3.getD m z70).f0, .int .i64 ((J67 xs (j : Int)).f3.f3.getD m z70).f1]) (seg := [.int .i64 u]) (j := 1) (x' := { (J67 xs (j : Int)).f3.f3.getD m z70 with f1 := u }) (okp := fun _ => False) rfl (by rw [Int.toNat_natCast]; exact hpc) (by show 1 + 1 ≤ 2; decide) (k70_mk W { (J67 xs (j : Int)).f3.f3.getD m z70 with f1 := u }) (fun _ hk => hk.elim)
  rw [Int.toNat_natCast] at h1 h2
  have hH2 := H_step (w1 := W.setCell ⟨g9, m * 2 + 1, none⟩ (.int .i64 u)) hH (fun k hk hn _ => Below.heap_setCell _ _ _ _ (fun e => hn (by rw [show k = g9 from e]; exact ho9)))
  have hM2 := k67_mkM (W.setCell ⟨g9, m * 2 + 1, none⟩ (.int .i64 u)) base oki { J67 xs (j : Int) with f3 := { (J67 xs (j : Int)).f3 with f3 := (J67 xs (j : Int)).f3.f3.set m { (J67 xs (j : Int)).f3.f3.getD m z70 with f1 := u } } } h1
  have h3 := Kd.H_back hH2 hM2 (fun _ hk => hk)
  rw [Int.toNat_natCast] at h3
  exact ⟨_, map_set_same _ xs z67 j _ (by simp [J67]), h3⟩
theorem cl_flat {g n cap base : Nat} {W : World} {ok : Nat → Prop} {xs : List S38} (h : Kd.S k38 38 W base ok (.slice (some ⟨g, 0, none⟩) n cap) xs) (j : Nat) (hj : j < n) (u : Int) :
    (∃ ys, shp38 ys = shp38 xs ∧ Kd.S k38 38 (W.setCell ⟨g, j * 11 + 2, none⟩ (.int .i64 u)) base ok (.slice (some ⟨g, 0, none⟩) n cap) ys) ∧ ∃ ys, shp38 ys = shp38 xs ∧ Kd.S k38 38 (W.setCell ⟨g, j * 11, none⟩ (.int .i64 u)) base ok (.slice (some ⟨g, 0, none⟩) n cap) ys := by
  obtain ⟨oki, c, hcl, hM, hcc, hfr, hoki, hH⟩ := Kd.S_elem (Kd.S_mono h (fun k hk => (⟨hk, fun hf => hf⟩ : ok k ∧ ¬ False))) z38 (j : Int) (by omega) (by omega)
  rw [Int.toNat_natCast] at hM
  obtain ⟨v8, rfl, hv8⟩ := k38_openM hM
  obtain ⟨h1, -⟩ := Kd.S_seg (okg := fun _ => False) hH (by omega) (by omega) (seg := [.int .i64 u]) (j := 2) (x' := { xs.getD j z38 with f1 := { (xs.getD j z38).f1 with f1 := u } }) (okp := oki) (by show 2 + 1 ≤ 11; decide) (k38_mkM W base oki { xs.getD j z38 with f1 := { (xs.getD j z38).f1 with f1 := u } } hv8) (fun k hk => .inl hk) (fun k hk => hk.elim)
  obtain ⟨h2, -⟩ := Kd.S_seg (okg := fun _ => False) hH (by omega) (by omega) (seg := [.int .i64 u]) (j := 0) (x' := { xs.getD j z38 with f0 := u }) (okp := oki) (by show 0 + 1 ≤ 11; decide) (k38_mkM W base oki { xs.getD j z38 with f0 := u } hv8) (fun k hk => .inl hk) (fun k hk => hk.elim)
  rw [Int.toNat_natCast] at h1 h2
  exact ⟨⟨xs.set j { xs.getD j z38 with f1 := { (xs.getD j z38).f1 with f1 := u } }, map_set_same _ xs z38 j _ rfl, h1⟩, ⟨xs.set j { xs.getD j z38 with f0 := u }, map_set_same _ xs z38 j _ rfl, h2⟩⟩
theorem cl_row {g n cap base : Nat} {W : World} {ok : Nat → Prop} {xs : List S38} (h : Kd.S k38 38 W base ok (.slice (some ⟨g, 0, none⟩) n cap) xs) (j : Nat) (hj : j < n) :
    ∃ (A8 : Option Addr) (c8 : Nat), W.cell? ⟨g, j * 11, none⟩ = some (.int .i64 (J38 xs (j : Int)).f0) ∧ W.frozen? ⟨g, j * 11, none⟩ = false ∧ W.cell? ⟨g, j * 11 + 2, none⟩ = some (.int .i64 (J38 xs (j : Int)).f1.f1) ∧ W.frozen? ⟨g, j * 11 + 2, none⟩ = false ∧ W.cell? ⟨g, j * 11 + 8, none⟩ = some (.slice A8 (J38 xs (j : Int)).f2.f3.length c8) ∧ (J38 xs (j : Int)).f2.f3.length ≤ 9223372036854775807 ∧
    ∀ m : Nat, m < (J38 xs (j : Int)).f2.f3.length → ∃ g8, A8 = some ⟨g8, 0, none⟩ ∧ ok g8 ∧ (∃ a, W.cell? ⟨g8, m * 2, none⟩ = some (.int .i64 a)) ∧ W.frozen? ⟨g8, m * 2, none⟩ = false ∧
      ∀ u : Int, ∃ ys, shp38 ys = shp38 xs ∧ Kd.S k38 38 (W.setCell ⟨g8, m * 2, none⟩ (.int .i64 u)) base ok (.slice (some ⟨g, 0, none⟩) n cap) ys := by
  obtain ⟨oki, c, hcl, hM, hcc, hfr, hoki, hH⟩ := Kd.S_elem h z38 (j : Int) (by omega) (by omega)
  rw [show xs.getD (j : Int).toNat z38 = J38 xs (j : Int) from rfl] at hM
  simp only [Int.toNat_natCast, show k38.sz = 11 from rfl] at hcc hfr
  obtain ⟨v8, rfl, hv8⟩ := k38_openM hM
  obtain ⟨A8, c8, rfl⟩ := Kd.R_slice hv8
  refine ⟨A8, c8, hcc 0 _ rfl, hfr 0, hcc 2 _ rfl, hfr 2, hcc 8 _ rfl, (Kd.R_reads' hv8).2.2.2.1, fun m hm => ?_⟩
  obtain ⟨g8, cap8, e8, -⟩ := Kd.R_form hv8 (by omega)
  injection e8 with e8 _ _
  subst e8
  have ho8 : oki g8 := hv8.1 g8 (by simp [Value.ownBlock])
  obtain ⟨cp, hpl, hpM, hpc, hpf⟩ := Kd.R_elem hv8 z70 (m : Int) (by omega) (by omega)
  simp only [Int.toNat_natCast, show k70.sz = 2 from rfl] at hpc hpf hpM
  have hcp := k70_open (k70.K_of_M (w := W) (base := base) (ok := oki) hpM)
  subst hcp
  refine ⟨g8, rfl, (hoki g8 ho8).1, ⟨_, hpc 0 _ rfl⟩, hpf 0, fun u => ?_⟩
  obtain ⟨h1, h2⟩ := Kd.R_seg hv8 (m : Int) (by omega) (by omega) (c := [.int .i64 ((J38 xs (j : Int)).f2.f3.getD m z70).f0, .int .i64 ((J38 xs (j : Int)).f2.f3.getD m z70).f1]) (seg := [.int .i64 u]) (j := 0) (x' := { (J38 xs (j : Int)).f2.f3.getD m z70 with f0 := u }) (okp := fun _ => False) rfl (by rw [Int.toNat_natCast]; exact hpc) (by show 0 + 1 ≤ 2; decide) (k70_mk W { (J38 xs (j : Int)).f2.f3.getD m z70 with f0 := u }) (fun _ hk => hk.elim)
  rw [Int.toNat_natCast] at h1 h2
  have hH2 := H_step (w1 := W.setCell ⟨g8, m * 2, none⟩ (.int .i64 u)) hH (fun k hk hn _ => Below.heap_setCell _ _ _ _ (fun e => hn (by rw [show k = g8 from e]; exact ho8)))
  have hM2 := k38_mkM (W.setCell ⟨g8, m * 2, none⟩ (.int .i64 u)) base oki { J38 xs (j : Int) with f2 := { (J38 xs (j : Int)).f2 with f3 := (J38 xs (j : Int)).f2.f3.set m { (J38 xs (j : Int)).f2.f3.getD m z70 with f0 := u } } } h1
  have h3 := Kd.H_back hH2 hM2 (fun _ hk => hk)
  rw [Int.toNat_natCast] at h3
  exact ⟨_, map_set_same _ xs z38 j _ (by simp [J38]), h3⟩
theorem take_zip {α : Type} (xs : List α) (m : Nat) : (xs.take m).zipIdx = xs.zipIdx.take m := by
  apply List.ext_getElem?
  intro i
  rw [List.getElem?_zipIdx, List.getElem?_take, List.getElem?_take, List.getElem?_zipIdx]
  split <;> simp
theorem S_take {α : Type} {d : Kd α} {e g n m cap base : Nat} {w : World} {ok : Nat → Prop} {xs : List α} (h : Kd.S d e w base ok (.slice (some ⟨g, 0, none⟩) n cap) xs) (hm : m ≤ xs.length) : Kd.S d e w base ok (.slice (some ⟨g, 0, none⟩) m cap) (xs.take m) := by
  obtain ⟨f, h⟩ := h
  have h2 := Kd.R_take h (m := m) (by rw [List.length_zipIdx]; exact hm)
  exact ⟨f, by rw [take_zip]; exact h2⟩
end Go.Proofs.Ytagdkmcgepidoaa.P
