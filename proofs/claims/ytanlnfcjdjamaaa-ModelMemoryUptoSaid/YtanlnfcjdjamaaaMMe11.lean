/- P.modelMemory_holds, part 12 of 37: the contracts of the Go functions that the law calls, its own walk, and its plain law, for every input that the statement speaks of. -/
import Derived.Laws.IdiomCopy
import Derived.Lib.AppendZerosOnto
import Derived.Lib.Overlaps
import Derived.Test.YtanlnfcjdjamaaaMMe2
set_option linter.unusedVariables false
set_option linter.unusedSimpArgs false
/- M0 -/
namespace Go.Proofs.Ytanlnfcjdjamaaa.P
open Go.RowKit Go.Proofs.YtanlnfcjdjamaaaW.PrintWords Go.Proofs.YtanlnfcjdjamaaaW.PrintLast Go.Proofs.YtanlnfcjdjamaaaW.PrintMore
def pc (ms : List S51) : List Value := ms.flatMap fun p => [.int .i64 p.f0, .int .i64 p.f1]
theorem pc_cons (p : S51) (ms : List S51) : pc (p :: ms) = .int .i64 p.f0 :: .int .i64 p.f1 :: pc ms := rfl
theorem pc_app (a b : List S51) : pc (a ++ b) = pc a ++ pc b := by simp [pc]
theorem pc_len : ∀ ms : List S51, (pc ms).length = ms.length * 2
  | [] => rfl
  | p :: r => by rw [pc_cons, List.length_cons, List.length_cons, pc_len r, List.length_cons]; omega
theorem pc_take : ∀ (ms : List S51) (m : Nat), (pc ms).take (m * 2) = pc (ms.take m)
  | [], m => by simp [pc]
  | p :: r, 0 => by simp [pc]
  | p :: r, m + 1 => by rw [show (m + 1) * 2 = m * 2 + 1 + 1 by omega, pc_cons, List.take_succ_cons, List.take_succ_cons, pc_take r m, List.take_succ_cons, pc_cons]
theorem pc_drop : ∀ (ms : List S51) (m : Nat), (pc ms).drop (m * 2) = pc (ms.drop m)
  | [], m => by simp [pc]
  | p :: r, 0 => by simp
  | p :: r, m + 1 => by rw [show (m + 1) * 2 = m * 2 + 1 + 1 by omega, pc_cons, List.drop_succ_cons, List.drop_succ_cons, pc_drop r m, List.drop_succ_cons]
theorem pc_one (ms : List S51) : ∀ u ∈ pc ms, u.oneCell' = true := by
  intro u hu
  obtain ⟨p, _, hp⟩ := List.mem_flatMap.1 hu
  simp only [List.mem_cons, List.not_mem_nil, or_false] at hp
  rcases hp with rfl | rfl <;> rfl
def PC (x : S51) (cs : List Value) : Prop := cs = [.int .i64 x.f0, .int .i64 x.f1]
theorem reps_pc (ms : List S51) : Reps PC 2 ms (pc ms) := by
  refine ⟨pc_len ms, fun j p hj => ?_⟩
  obtain ⟨hl, he⟩ := List.getElem?_eq_some_iff.1 hj
  rw [pc_drop, List.drop_eq_getElem_cons hl, he, pc_cons]
  rfl
theorem pc_of_reps : ∀ (ms : List S51) (inner : List Value), Reps PC 2 ms inner → inner = pc ms
  | [], inner, h => List.eq_nil_of_length_eq_zero (by have := h.1; simpa using this)
  | p :: r, inner, h => by
    have h0 : (inner.drop (0 * 2)).take 2 = [.int .i64 p.f0, .int .i64 p.f1] := h.2 0 p rfl
    rw [Nat.zero_mul, List.drop_zero] at h0
    have hr : Reps PC 2 r (inner.drop 2) := ⟨by rw [List.length_drop, h.1, List.length_cons]; omega, fun j q hj => by
      have := h.2 (j + 1) q (by rw [List.getElem?_cons_succ]; exact hj)
      rw [List.drop_drop, show 2 + j * 2 = (j + 1) * 2 by omega]
      exact this⟩
    rw [← List.take_append_drop 2 inner, h0, pc_of_reps r _ hr, pc_cons]
    rfl
theorem R_pc {e base : Nat} {w : World} {ok : Nat → Prop} {v : Value} {ms : List S51} (h : Kd.R k51 e w base ok v ms) : w.ownsRow base e 2 v ms.length (pc ms) := by
  obtain ⟨_, inner, ho, hr⟩ := h
  have : inner = pc ms := pc_of_reps ms inner (hr.imp_ (fun x cs hp => k51_open (k51.K_of_M hp)))
  rw [this] at ho
  exact ho
theorem pc_R {e base : Nat} {w : World} {ok : Nat → Prop} {v : Value} {ms : List S51} (h : w.ownsRow base e 2 v ms.length (pc ms)) (hok : ∀ k, v.ownBlock = some k → ok k) : Kd.R k51 e w base ok v ms :=
  ⟨hok, pc ms, h, (reps_pc ms).imp_ (fun x cs hp => by rw [show cs = _ from hp]; exact k51_mk w x)⟩
theorem C_pc {w : World} {A : Option Addr} {ad : Addr} {ms : List S51} (h : Kd.C k51 w A ms.length ms) (hA : 0 < ms.length → A = some ad) : ∀ j u, (pc ms)[j]? = some u → w.cell? (ad.add j) = some u := by
  intro j u hu
  have hj := (List.getElem?_eq_some_iff.1 hu).1
  rw [pc_len] at hj
  obtain ⟨ad', c, ea, hcl, hK, hc⟩ := Kd.C_get h z51 ((j / 2 : Nat) : Int) (by omega) (by omega)
  rw [hA (by omega)] at ea
  cases ea
  rw [Int.toNat_natCast] at hK hc
  have hcs := k51_open hK
  subst hcs
  have hl : j / 2 < ms.length := by omega
  have hget : (pc ms)[j]? = [Value.int .i64 (ms.getD (j / 2) z51).f0, .int .i64 (ms.getD (j / 2) z51).f1][j % 2]? := by
    have h2 := (reps_pc ms).2 (j / 2) _ (List.getElem?_eq_getElem hl)
    rw [List.getD_eq_getElem?_getD, List.getElem?_eq_getElem hl]
    have h3 : ((pc ms).drop (j / 2 * 2)).take 2 = [Value.int .i64 (ms[j / 2]).f0, .int .i64 (ms[j / 2]).f1] := h2
    show (pc ms)[j]? = [Value.int .i64 (ms[j / 2]).f0, .int .i64 (ms[j / 2]).f1][j % 2]?
    rw [← h3, List.getElem?_take, if_pos (Nat.mod_lt _ (by decide)), List.getElem?_drop, show j / 2 * 2 + j % 2 = j by omega]
  rw [hget] at hu
  have := hc (j % 2) u hu
  rwa [show j / 2 * k51.sz + j % 2 = j by show j / 2 * 2 + j % 2 = j; omega] at this
theorem own_set {base g n cap n' o : Nat} {e : TypeId} {w : World} {ms ys : List S51} {vs : List Value} (h : w.ownsRow base e 2 (.slice (some ⟨g, 0, none⟩) n cap) ms.length (pc ms)) (hn' : ys.length ≤ cap) (hfit : o + vs.length ≤ cap * 2)
    (hys : ∀ cur : List Value, cur.length = cap * 2 → cur.take (ms.length * 2) = pc ms → (cur.take o ++ vs ++ cur.drop (o + vs.length)).take (ys.length * 2) = pc ys) (hnn : n' = ys.length) :
    (w.setCells g o vs).ownsRow base e 2 (.slice (some ⟨g, 0, none⟩) n' cap) ys.length (pc ys) ∧ w.grownBy (w.setCells g o vs) (some g) := by
  subst hnn
  rcases h.2 with ⟨hv, _⟩ | ⟨g', cap', cur, hv, hb, hh, hnc', hcm, hcs, ht⟩
  · cases hv
  injection hv with ha hn hc
  injection ha with ha
  injection ha with hg
  subst hg; subst hc
  obtain ⟨cur', h3, h4, h5⟩ := setCells_row vs o w cur hh (by omega)
  obtain ⟨s1, s2, s3, s4⟩ := setCells_same g vs o w
  refine ⟨⟨pc_len ys, .inr ⟨g, cap, cur', rfl, hb, h3, hn', hcm, by rw [h4]; exact hcs, ?_⟩⟩, ⟨s1, s2, s3, by rw [s4]; exact Nat.le_refl _, fun k _ hk => setCells_far vs _ k (fun he => hk (by rw [he]))⟩⟩
  rw [h5]
  exact hys cur.toList (by rw [Array.length_toList]; exact hcs) ht
theorem own_cells {base g n cap : Nat} {e : TypeId} {w : World} {ms : List S51} (h : w.ownsRow base e 2 (.slice (some ⟨g, 0, none⟩) n cap) ms.length (pc ms)) (q : Nat) (hq : q < cap * 2) : (w.cell? ⟨g, q, none⟩).isSome = true ∧ w.frozen? ⟨g, q, none⟩ = false := by
  rcases h.2 with ⟨hv, _⟩ | ⟨g', cap', cur, hv, hb, hh, hnc', hcm, hcs, ht⟩
  · cases hv
  injection hv with ha hn hc
  injection ha with ha
  injection ha with hg
  subst hg; subst hc
  rw [blk_cell hh, Array.getElem?_eq_getElem (by omega)]
  exact ⟨rfl, blk_frozen hh _⟩
theorem own_at {base g n cap : Nat} {e : TypeId} {w : World} {ms : List S51} (h : w.ownsRow base e 2 (.slice (some ⟨g, 0, none⟩) n cap) ms.length (pc ms)) (q : Nat) (u : Value) (hu : (pc ms)[q]? = some u) : w.cell? ⟨g, q, none⟩ = some u := by
  have := h.cells (g := g) (by simp [Value.ownBlock]) q u hu
  rwa [add_at, Nat.zero_add] at this
end Go.Proofs.Ytanlnfcjdjamaaa.P
