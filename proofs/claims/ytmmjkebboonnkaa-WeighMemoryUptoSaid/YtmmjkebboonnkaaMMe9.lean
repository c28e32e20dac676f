/- P.weighMemory_holds, part 10 of 28: the contracts of the Go functions that the law calls, its own walk, and its plain law, for every input that the statement speaks of. -/
import Derived.Test.YtmmjkebboonnkaaMMe2
import Derived.Maps.OwnOps
import Derived.Maps.Views
set_option linter.unusedVariables false
set_option linter.unusedSimpArgs false
/- E5 -/
namespace Go.Proofs.Ytmmjkebboonnkaa.P
open Go.RowKit Go.Maps Go.Proofs.YtmmjkebboonnkaaW.PrintWords
def MapI (P : Program) (K E : TypeId) (w : World) (b n : Nat) (f : Int → Int) : Prop :=
  ∃ D : DataW Unit, w.ownsMap P K (plainElem P E) b n D ∧ ∀ k, (Lit.int .i64 k).wf = true → D.atKey (.int .i64 k) (.lit (.int .i64 0)) = .lit (.int .i64 (f k))
def MapB (P : Program) (K E : TypeId) (w : World) (b n : Nat) (f : Int → Bool) : Prop :=
  ∃ D : DataW Unit, w.ownsMap P K (plainElem P E) b n D ∧ ∀ k, (Lit.int .i64 k).wf = true → D.atKey (.int .i64 k) (.lit (.bool false)) = .lit (.bool (f k))
section
variable {P : Program} {K E : TypeId} {w w1 : World} {b n : Nat} {f : Int → Int} {fb : Int → Bool}
theorem MapI.made (w : World) : MapI P K E (w.alloc (.map #[] 0)) w.heap.size 0 (fun _ => 0) := ⟨.map [], World.ownsMap_made _ _ _ _, fun _ _ => rfl⟩
theorem MapB.made (w : World) : MapB P K E (w.alloc (.map #[] 0)) w.heap.size 0 (fun _ => false) := ⟨.map [], World.ownsMap_made _ _ _ _, fun _ _ => rfl⟩
theorem MapI.kept {row : Option Nat} (h : MapI P K E w b n f) (hg : w.grownBy w1 row) (hne : some b ≠ row) : MapI P K E w1 b n f := h.elim fun D h => ⟨D, h.1.kept hg hne, h.2⟩
theorem MapB.kept {row : Option Nat} (h : MapB P K E w b n fb) (hg : w.grownBy w1 row) (hne : some b ≠ row) : MapB P K E w1 b n fb := h.elim fun D h => ⟨D, h.1.kept hg hne, h.2⟩
theorem MapI.below (h : MapI P K E w b n f) (hb : Below w.heap.size w w1) : MapI P K E w1 b n f := h.kept (grown_of_below hb none) (by simp)
theorem MapB.below (h : MapB P K E w b n fb) (hb : Below w.heap.size w w1) : MapB P K E w1 b n fb := h.kept (grown_of_below hb none) (by simp)
theorem MapI.alloc (h : MapI P K E w b n f) (o : Obj) : MapI P K E (w.alloc o) b n f := h.below (below_alloc (Below.refl _ _) o)
theorem MapB.alloc (h : MapB P K E w b n fb) (o : Obj) : MapB P K E (w.alloc o) b n fb := h.below (below_alloc (Below.refl _ _) o)
theorem MapI.drew (h : MapI P K E w b n f) : MapI P K E w.drew b n f := h.below (below_drew (Below.refl _ _))
theorem MapI.ne_row (h : MapI P K E w b n f) {v : Value} {α : Type} {d : Kd α} {e base : Nat} {ok : Nat → Prop} {xs : List α} (ho : d.R e w base ok v xs) : some b ≠ v.ownBlock := fun he => by
  obtain ⟨D, ⟨es, clock, hb, _⟩, _⟩ := h
  obtain ⟨cells, hc⟩ := Kd.R_typed ho b he.symm
  rw [hb] at hc
  simp at hc
theorem MapB.ne_row (h : MapB P K E w b n fb) {v : Value} {α : Type} {d : Kd α} {e base : Nat} {ok : Nat → Prop} {xs : List α} (ho : d.R e w base ok v xs) : some b ≠ v.ownBlock := fun he => by
  obtain ⟨D, ⟨es, clock, hb, _⟩, _⟩ := h
  obtain ⟨cells, hc⟩ := Kd.R_typed ho b he.symm
  rw [hb] at hc
  simp at hc
theorem R_map {α : Type} {d : Kd α} {e base : Nat} {ok : Nat → Prop} {v : Value} {xs : List α} (ho : d.R e w base ok v xs) (hE : ∃ es clock, w.heap[b]? = some (.map es clock)) (hg : w.grownBy w1 (some b)) : d.R e w1 base ok v xs := by
  have h1 := Kd.R_bound ho
  have h2 := Kd.R_move (w1 := w1) h1 (fun k hk => by
    obtain ⟨_, _, hlt, q, _, cells, hc⟩ := hk
    refine hg.block k hlt ?_
    rintro he
    cases he
    obtain ⟨es, clock, hb⟩ := hE
    rw [hb] at hc
    simp at hc)
  exact Kd.R_mono h2 (fun _ hk => hk.1)
theorem MapI.blk (h : MapI P K E w b n f) : ∃ es clock, w.heap[b]? = some (.map es clock) := by
  obtain ⟨D, ⟨es, clock, hb, _⟩, _⟩ := h
  exact ⟨es, clock, hb⟩
theorem MapB.blk (h : MapB P K E w b n fb) : ∃ es clock, w.heap[b]? = some (.map es clock) := by
  obtain ⟨D, ⟨es, clock, hb, _⟩, _⟩ := h
  exact ⟨es, clock, hb⟩
theorem MapI.run_lookup (h : MapI P K E w b n f) {t : TypeId} (hK : P.underlying K = some (.int .i64)) (ht : P.underlying t = some (.map K E)) (he : P.underlying E = some (.int .i64)) (hz : (zeroValue E).run P w = .ok (.int .i64 0) w) (key : Int) (hw : (Lit.int .i64 key).wf = true) :
    (Instr.lookup t (.map (some b)) (.int .i64 key) false).run P w = .ok (.int .i64 (f key)) w := by
  obtain ⟨D, hown, hf⟩ := h
  obtain ⟨c, hrun, hat, _⟩ := hown.lookup_int (int_keyed hK) ht he hz (keyOf_int_mk hK hw)
  rw [hf key hw] at hat
  cases hat
  exact hrun
theorem MapI.run_update (h : MapI P K E w b n f) {t : TypeId} (hK : P.underlying K = some (.int .i64)) (ht : P.underlying t = some (.map K E)) (he : P.underlying E = some (.int .i64)) (hn : n < maxLen) (key v : Int) (hw : (Lit.int .i64 key).wf = true) (hv : (Lit.int .i64 v).wf = true) :
    ∃ w', (Instr.mapUpdate t (.map (some b)) (.int .i64 key) (.int .i64 v)).run P w = .ok () w' ∧ MapI P K E w' b (n + 1) (fun k => if k = key then v else f k) ∧ w.grownBy w' (some b) := by
  obtain ⟨D, hown, hf⟩ := h
  have hD : IsMap D := by obtain ⟨es, clock, _, _, _, rfl⟩ := hown; exact ⟨_, rfl⟩
  obtain ⟨w', hrun, r1, r2⟩ := hown.update (int_keyed hK) ht hn (keyOf_int_mk hK hw) (plainElem_int he hv)
  refine ⟨w', hrun, ⟨_, r1, fun k hk => ?_⟩, r2⟩
  by_cases hkk : k = key
  · subst hkk
    rw [atKey_put_same hD ((int_keyed hK).key (keyOf_int_mk hK hw))]
    simp
  · rw [atKey_put_other (by simpa using hkk), hf k hk]
    simp [hkk]
theorem plainElem_bool_inv {H : Type} (he : P.underlying E = some .bool) {v : Value} {x : Bool} {ps : List MemPlace} (h : plainElem (H := H) P E v = some (.lit (.bool x), ps)) : v = .bool x := by
  unfold plainElem at h
  rw [he] at h
  cases v <;> simp at h
  rw [h.1]
theorem MapB.run_lookup (h : MapB P K E w b n fb) {t : TypeId} (hK : P.underlying K = some (.int .i64)) (ht : P.underlying t = some (.map K E)) (he : P.underlying E = some .bool) (hz : (zeroValue E).run P w = .ok (.bool false) w) (key : Int) (hw : (Lit.int .i64 key).wf = true) :
    (Instr.lookup t (.map (some b)) (.int .i64 key) false).run P w = .ok (.bool (fb key)) w := by
  obtain ⟨D, hown, hf⟩ := h
  obtain ⟨v, ps, hrun, hv⟩ := hown.lookup (int_keyed hK) ht hz (plainElem_bool he false) (keyOf_int_mk hK hw)
  rw [hf key hw] at hv
  rw [plainElem_bool_inv he hv] at hrun
  exact hrun
theorem MapB.run_update (h : MapB P K E w b n fb) {t : TypeId} (hK : P.underlying K = some (.int .i64)) (ht : P.underlying t = some (.map K E)) (he : P.underlying E = some .bool) (hn : n < maxLen) (key : Int) (v : Bool) (hw : (Lit.int .i64 key).wf = true) :
    ∃ w', (Instr.mapUpdate t (.map (some b)) (.int .i64 key) (.bool v)).run P w = .ok () w' ∧ MapB P K E w' b (n + 1) (fun k => if k = key then v else fb k) ∧ w.grownBy w' (some b) := by
  obtain ⟨D, hown, hf⟩ := h
  have hD : IsMap D := by obtain ⟨es, clock, _, _, _, rfl⟩ := hown; exact ⟨_, rfl⟩
  obtain ⟨w', hrun, r1, r2⟩ := hown.update (int_keyed hK) ht hn (keyOf_int_mk hK hw) (plainElem_bool he v)
  refine ⟨w', hrun, ⟨_, r1, fun k hk => ?_⟩, r2⟩
  by_cases hkk : k = key
  · subst hkk
    rw [atKey_put_same hD ((int_keyed hK).key (keyOf_int_mk hK hw))]
    simp
  · rw [atKey_put_other (by simpa using hkk), hf k hk]
    simp [hkk]
end
theorem wf_i64 {k : Int} (h0 : -9223372036854775808 ≤ k) (h1 : k ≤ 9223372036854775807) : (Lit.int .i64 k).wf = true := by
  simp [Lit.wf, IntKind.min, IntKind.max, IntKind.bits, IntKind.signed]
  omega
end Go.Proofs.Ytmmjkebboonnkaa.P
