/- P.eventApart_holds, part 18 of 41: the contracts of the Go functions that the law calls, its own walk, and its plain law, for every input that the statement speaks of. -/
import Derived.Test.YtagdkmcgepidoaaMAp16
import Derived.Test.YtagdkmcgepidoaaMAp4
import Derived.Test.YtagdkmcgepidoaaMAp2
import Derived.Test.YtagdkmcgepidoaaMAp14
set_option linter.unusedVariables false
set_option linter.unusedSimpArgs false
/- E19 -/
namespace Go.Proofs.Ytagdkmcgepidoaa.P
open Go.RowKit Go.Proofs.YtagdkmcgepidoaaW.PrintWords Go.Proofs.YtagdkmcgepidoaaW.PrintLast Go.Proofs.YtagdkmcgepidoaaW.PrintMore
theorem own_form0 {w : World} {base e size n : Nat} {v : Value} {xs : List Value} (h : w.ownsRow base e size v n xs) {b : Nat} (hb : v.ownBlock = some b) : ∃ cap, v = .slice (some ⟨b, 0, none⟩) n cap := by
  rcases h.2 with ⟨rfl, _⟩ | ⟨g, cap, cur, rfl, hg, hh, r⟩
  · simp [Value.ownBlock] at hb
  · have : g = b := by simpa [Value.ownBlock] using hb
    subst this
    exact ⟨cap, rfl⟩
theorem run_copy_zero {P : Program} (w : World) (dT sT ty elem : TypeId) (d a : Option Addr) (dLen dCap sCap : Nat) (hu : P.underlying dT = some (.slice elem)) (hs : ((P.info? elem).map (·.size)).isSome = true) :
    (Builtin.copy_ #[dT, sT] ty #[.slice d dLen dCap, .slice a 0 sCap]).run P w = .ok (goInt (0 : Nat)) w := by
  cases hq : P.info? elem with
  | none => simp [hq] at hs
  | some i =>
    cases a with
    | none => cases d <;> simp [Builtin.copy_, run_underlying hu, Builtin.lenOf, Builtin.firstCells, sizeOf, typeInfo, hq, storeCells]
    | some a =>
      have hl : (loadCells a 0).run P w = .ok #[] w := run_loadCells_list (P := P) w a [] (fun j v h => by simp at h)
      cases d <;> simp [Builtin.copy_, run_underlying hu, Builtin.lenOf, Builtin.firstCells, sizeOf, typeInfo, hq, storeCells, hl]
theorem run_copy_cells_wide {P : Program} (w : World) (dT sT ty elem : TypeId) (g dLen dCap : Nat) (a : Addr) (sLen sCap sz : Nat) (cs : List Value) (hu : P.underlying dT = some (.slice elem)) (hs : (P.info? elem).map (·.size) = some sz) (hle : sLen ≤ dLen)
    (hn : cs.length = sLen * sz) (hsrc : ∀ j v, cs[j]? = some v → w.cell? (a.add j) = some v) (hc : ∀ j, j < cs.length → (w.cell? ⟨g, j, none⟩).isSome = true) (hf : ∀ j, j < cs.length → w.frozen? ⟨g, j, none⟩ = false) (h1 : ∀ v ∈ cs, v.oneCell' = true) :
    (Builtin.copy_ #[dT, sT] ty #[.slice (some ⟨g, 0, none⟩) dLen dCap, .slice (some a) sLen sCap]).run P w = .ok (goInt sLen) (w.setCells g 0 cs) := by
  have hl := run_loadCells_list (P := P) w a cs hsrc
  have hst := run_storeCells_cells (P := P) g 0 cs 0 w (by simpa using hc) (by simpa using hf) h1
  cases hq : P.info? elem with
  | none => simp [hq] at hs
  | some i =>
    have hi : i.size = sz := by simpa [hq] using hs
    have hm : Nat.min sLen dLen = sLen := Nat.min_eq_left hle
    simp [Builtin.copy_, run_underlying hu, Builtin.lenOf, Builtin.firstCells, sizeOf, typeInfo, hq, hi, hm, ← hn, hl, hst]
theorem size67' : (Try.prog.info? 67).map (·.size) = some 10 := by kernel_rfl
theorem copy_full {base B g n6 cap : Nat} {W : World} {v : Value} {l zs : List S67} (hF : (Kd.bare k67).R 67 W base (fun _ => True) (.slice (some ⟨g, 0, none⟩) n6 cap) zs) (hV : Kd.S k67 67 W B (fun _ => True) v l) (hgB : g < B) (hbB : base ≤ B) (hn : l.length ≤ n6) :
    ∃ w', (∀ ty, (Builtin.copy_ #[22, 22] ty #[.slice (some ⟨g, 0, none⟩) n6 cap, v]).run Try.prog W = .ok (goInt l.length) w') ∧ Kd.S k67 67 w' base (fun _ => True) (.slice (some ⟨g, 0, none⟩) n6 cap) (l ++ zs.drop l.length) ∧ W.grownBy w' (some g) := by
  have hF0 := hF
  obtain ⟨f, hV1⟩ := hV
  obtain ⟨-, innerV, hoV, hrV⟩ := Kd.R_bound hV1
  obtain ⟨-, inner0, ho0, hr0⟩ := hF
  have hzl : zs.length = n6 := (Kd.R_reads' hF0).1.symm
  have hVl : innerV.length = l.length * 10 := by have := hrV.1; rw [List.length_zipIdx] at this; exact this
  have h0l : inner0.length = n6 * 10 := by have := hr0.1; rw [hzl] at this; exact this
  have h1V : ∀ u ∈ innerV, u.oneCell' = true := by
    intro u hu
    obtain ⟨q, hq, rfl⟩ := List.mem_iff_getElem.1 hu
    have hd : q / 10 < l.zipIdx.length := by rw [List.length_zipIdx]; omega
    have hR := hrV.2 (q / 10) _ (List.getElem?_eq_getElem hd)
    refine Kd.K_one _ (Kd.K_of_M _ hR) _ ?_
    refine List.mem_iff_getElem?.2 ⟨q % 10, ?_⟩
    rw [List.getElem?_take, if_pos (show q % 10 < (Kd.tag f k67).sz from Nat.mod_lt _ (by decide)), List.getElem?_drop, show q / 10 * (Kd.tag f k67).sz + q % 10 = q from by show q / 10 * 10 + q % 10 = q; omega]
    exact List.getElem?_eq_getElem hq
  obtain ⟨-, inner0', ho0', -⟩ := hF0
  rcases ho0.2 with ⟨hv, _⟩ | ⟨g', cap', cur, hv, hb, hh, hnc', hcm, hcs, ht⟩
  · cases hv
  injection hv with ha hnn hc
  injection ha with ha
  injection ha with hg
  subst hg; subst hc
  have hcs' : cur.size = cap * 10 := hcs
  have hnc : n6 ≤ cap := by omega
  have hrun : ∀ ty, (Builtin.copy_ #[22, 22] ty #[.slice (some ⟨g, 0, none⟩) n6 cap, v]).run Try.prog W = .ok (goInt l.length) (W.setCells g 0 innerV) := by
    intro ty
    rcases hoV.2 with ⟨rfl, hz⟩ | ⟨gv, capv, curv, rfl, hbv, hhv, hncv, hcmv, hcsv, htv⟩
    · rw [List.length_zipIdx] at hz
      rw [hz] at hVl ⊢
      obtain rfl : innerV = [] := List.eq_nil_of_length_eq_zero (by omega)
      exact run_copy_zero W 22 22 ty 67 _ _ n6 cap 0 Try.underlying22 (by rw [size67']; rfl)
    · rw [List.length_zipIdx] at hncv htv ⊢
      refine run_copy_cells_wide W 22 22 ty 67 g n6 cap ⟨gv, 0, none⟩ l.length capv 10 innerV Try.underlying22 size67' hn hVl ?_ ?_ ?_ h1V
      · intro j u hu
        exact hoV.cells (g := gv) (by simp [Value.ownBlock]) _ u hu
      · intro j hj
        rw [blk_cell hh, Array.getElem?_eq_getElem (by omega)]
        rfl
      · intro j hj
        exact blk_frozen hh _
  obtain ⟨cur', h3, h4, h5⟩ := setCells_row innerV 0 W cur hh (by omega)
  obtain ⟨s1, s2, s3, s4⟩ := setCells_same g innerV 0 W
  have hgr : W.grownBy (W.setCells g 0 innerV) (some g) := ⟨s1, s2, s3, by rw [s4]; exact Nat.le_refl _, fun k _ hk => setCells_far innerV _ k (fun he => hk (by rw [he]))⟩
  refine ⟨_, hrun, ⟨f, fun _ _ => trivial, innerV ++ inner0.drop (l.length * 10), ?_, ?_⟩, hgr⟩
  · have hll : (l ++ zs.drop l.length).zipIdx.length = n6 := by rw [List.length_zipIdx, List.length_append, List.length_drop]; omega
    rw [hll]
    refine ⟨by simp [hVl, h0l]; show _ = n6 * 10; omega, .inr ⟨g, cap, cur', rfl, hb, h3, hnc, hcm, by rw [h4]; exact hcs, ?_⟩⟩
    rw [h5]
    have ht' : cur.toList.take (n6 * 10) = inner0 := by rw [hzl] at ht; exact ht
    rw [List.take_zero, List.nil_append, Nat.zero_add, hVl, ← ht']
    show (innerV ++ List.drop (l.length * 10) cur.toList).take (n6 * 10) = _
    rw [List.take_append, hVl, List.take_of_length_le (by omega), List.drop_take]
  · rw [List.zipIdx_append]
    refine Kd.reps_append ⟨by rw [List.length_zipIdx]; exact hVl, fun j p hj => ?_⟩ ⟨?_, fun j p hj => ?_⟩
    · have := hrV.2 j p hj
      refine k67.M_mono (fun k hk => ⟨⟨trivial, ?_⟩, hk.2⟩) (k67.M_lower hbB (k67.M_move (w1 := W.setCells g 0 innerV) (fun k hk => ?_) this))
      · have h6 := hk.1.1.2.1
        simp only [Value.ownBlock, ne_eq, Option.some.injEq]
        omega
      · have h6 := hk.1.1.2.1
        exact setCells_far innerV _ k (by omega)
    · rw [List.length_zipIdx, List.length_drop, List.length_drop, h0l, hzl]
      show _ = _ * 10
      omega
    · rw [List.getElem?_zipIdx] at hj
      obtain ⟨q, hq, rfl⟩ := Option.map_eq_some_iff.1 hj
      rw [List.getElem?_drop] at hq
      have h6 := hr0.2 (l.length + j) q hq
      rw [List.drop_drop, show l.length * 10 + j * (Kd.tag f k67).sz = (l.length + j) * (Kd.bare k67).sz from by show l.length * 10 + j * 10 = (l.length + j) * 10; omega]
      exact k67.M_mono (fun _ hk => hk.elim) (k67.M_move (w1 := W.setCells g 0 innerV) (fun _ hk => hk.elim) h6)
def Win (a b k : Nat) : Prop := a ≤ k ∧ k < b
theorem S_win {α : Type} {d : Kd α} {e lo : Nat} {w w' : World} {v : Value} {xs : List α} (h : Kd.S d e w lo (fun _ => True) v xs) (hb : Below w.heap.size w w') : Kd.S d e w' lo (Win lo w.heap.size) v xs :=
  Kd.S_mono (Kd.S_below (Kd.S_bound h) hb) (fun _ hk => ⟨hk.2.1, hk.2.2.1⟩)
def WinN (b lo hi k : Nat) : Prop := k < b ∨ (lo ≤ k ∧ k < hi)
theorem N_win {α : Type} {d : Kd α} {e lo b : Nat} {w w' : World} {v : Value} {xs : List α} (h : Kd.N d e w lo (fun k => k < b ∨ lo ≤ k) v xs) (hb : Below w.heap.size w w') : Kd.N d e w' lo (WinN b lo w.heap.size) v xs :=
  Kd.N_mono (Kd.N_old h hb) (fun _ hk => hk.1.elim .inl (fun h2 => .inr ⟨h2, hk.2⟩))
theorem Chg.N {α : Type} {d : Kd α} {e base : Nat} {w w' : World} {ok ok' : Nat → Prop} {v : Value} {xs : List α} (hc : Chg w w' ok') (h : Kd.N d e w base ok v xs) (hne : ∀ k, ok k → ¬ ok' k) : Kd.N d e w' base ok v xs :=
  Kd.N_step h (fun k ho hl => hc.block k hl (hne k ho))
structure ApK (w W : World) (vb vd vp vk vr vu vt : Value) (cs : List S38) (don ofl back : List S67) (rcs : List S76) (rdon rof : List S67) (m6 m7 m8 m9 m10 m11 m12 m13 m14 m15 m16 m17 : Nat) : Prop where
  HB : Below w.heap.size w W
  b : Kd.S k38 38 W m6 (Win m6 m7) vb cs
  d : Kd.S k67 67 W m8 (Win m8 m9) vd don
  p : Kd.S k67 67 W m10 (Win m10 m11) vp ofl
  k : Kd.S k67 67 W m11 (Win m11 m12) vk back
  r : Kd.S k76 76 W m13 (Win m13 m14) vr rcs
  u : Kd.N k67 67 W m15 (WinN w.heap.size m15 m16) vu rdon
  t : Kd.N k67 67 W m16 (WinN w.heap.size m16 m17) vt rof
theorem ApK.chg {w W W' : World} {vb vd vp vk vr vu vt : Value} {cs : List S38} {don ofl back : List S67} {rcs : List S76} {rdon rof : List S67} {m6 m7 m8 m9 m10 m11 m12 m13 m14 m15 m16 m17 x y : Nat} (h : ApK w W vb vd vp vk vr vu vt cs don ofl back rcs rdon rof m6 m7 m8 m9 m10 m11 m12 m13 m14 m15 m16 m17)
    (hc : Chg W W' (Win x y)) (hx : w.heap.size ≤ x) (hne : (y ≤ m6 ∨ m7 ≤ x) ∧ (y ≤ m8 ∨ m9 ≤ x) ∧ (y ≤ m10 ∨ m12 ≤ x) ∧ (y ≤ m13 ∨ m14 ≤ x) ∧ (y ≤ m15 ∨ m17 ≤ x)) (hl : m10 ≤ m11 ∧ m11 ≤ m12 ∧ m15 ≤ m16 ∧ m16 ≤ m17) : ApK w W' vb vd vp vk vr vu vt cs don ofl back rcs rdon rof m6 m7 m8 m9 m10 m11 m12 m13 m14 m15 m16 m17 :=
  ⟨hc.to_below h.HB h.HB.size (fun k hk => Nat.le_trans hx hk.1), hc.S h.b (fun k h1 _ h2 => by unfold Win at h1 h2; omega), hc.S h.d (fun k h1 _ h2 => by unfold Win at h1 h2; omega), hc.S h.p (fun k h1 _ h2 => by unfold Win at h1 h2; omega), hc.S h.k (fun k h1 _ h2 => by unfold Win at h1 h2; omega),
    hc.S h.r (fun k h1 _ h2 => by unfold Win at h1 h2; omega), hc.N h.u (fun k h1 h2 => by unfold WinN at h1; unfold Win at h2; omega), hc.N h.t (fun k h1 h2 => by unfold WinN at h1; unfold Win at h2; omega)⟩
theorem ApK.below {w W W' : World} {vb vd vp vk vr vu vt : Value} {cs : List S38} {don ofl back : List S67} {rcs : List S76} {rdon rof : List S67} {m6 m7 m8 m9 m10 m11 m12 m13 m14 m15 m16 m17 : Nat} (h : ApK w W vb vd vp vk vr vu vt cs don ofl back rcs rdon rof m6 m7 m8 m9 m10 m11 m12 m13 m14 m15 m16 m17)
    (hb : Below W.heap.size W W') : ApK w W' vb vd vp vk vr vu vt cs don ofl back rcs rdon rof m6 m7 m8 m9 m10 m11 m12 m13 m14 m15 m16 m17 :=
  ⟨below_step h.HB hb, Kd.S_below h.b hb, Kd.S_below h.d hb, Kd.S_below h.p hb, Kd.S_below h.k hb, Kd.S_below h.r hb, Kd.N_below h.u hb, Kd.N_below h.t hb⟩
end Go.Proofs.Ytagdkmcgepidoaa.P
