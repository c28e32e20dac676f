/- P.eventRows_holds, part 25 of 25: the contracts of the Go functions that the law calls, its own walk, and its plain law, for every input that the statement speaks of. -/
import Derived.Test.YtagdkmcgepidoaaMRw22
import Derived.Test.YtagdkmcgepidoaaMRw23
import Derived.Test.YtagdkmcgepidoaaMRw11
import Derived.Test.YtagdkmcgepidoaaMRw17
import Derived.Test.YtagdkmcgepidoaaMRw8
import Derived.Test.YtagdkmcgepidoaaMRw21
set_option linter.unusedVariables false
set_option linter.unusedSimpArgs false
/- P12 -/
namespace Go.Proofs.Ytagdkmcgepidoaa.P
open Go.RowKit Go.Proofs.YtagdkmcgepidoaaW.PrintWords Go.Proofs.YtagdkmcgepidoaaW.PrintLast Go.Proofs.YtagdkmcgepidoaaW.PrintMore
structure All (l0 : List S67) (r : List S38) (own : Nat → Int) : Prop where
  len : l0.length ≤ 100000
  chk : chkGo l0 l0.length 0 (List.replicate 64 false) (List.replicate 64 z33) = 0
  calls : event_Calls.f l0 = some (r, 0)
  go : callsGo l0 l0.length 0 (List.replicate 64 0) [] = some r
  rl : r.length ≤ l0.length
  ow : Own r l0.length own
  sq : Seq l0 r l0.length
  wk : Go.Proofs.Ytagdkmcgepidoaa.P.ow l0 own l0.length 0 (List.replicate 64 0) 0
  half : r.length + (donL r).length = l0.length
  rs : ∀ g : Int → Bool, resp l0 (fun i => g (own i)) l0.length 0 (fun _ => g 0)
theorem all_of2 (l0 : List S67) (hp : ∀ e ∈ l0, e.f3.f3.length ≤ 1048576) (hE : event_Check.f l0 = some 0) : ∃ (r : List S38) (own : Nat → Int), All l0 r own := by
  obtain ⟨hl, hchk, r, own0, hA, hB, hC, hr, -, -⟩ := all_of l0 hp hE
  have hcg : callsGo l0 l0.length 0 (List.replicate 64 0) [] = some r := by
    have hA' := hA
    unfold event_Calls.f event_calls.f at hA'
    rw [hE] at hA'
    simp only [Option.bind_some, if_true] at hA'
    obtain ⟨t, h1, h2⟩ := Option.bind_eq_some_iff.mp hA'
    cases h2
    exact h1
  obtain ⟨own, -, hO, hG, hW⟩ := own_go l0 l0.length 0 (List.replicate 64 false) (List.replicate 64 z33) (List.replicate 64 0) [] r (fun _ => 0) (by simp) (by simp) hchk (fun t _ _ ht => by
    rw [rdOf_rep] at ht
    cases ht) ⟨fun q q0 q1 => by simp at q1; omega, fun q q0 q1 => by simp at q1; omega, fun i hi => by omega, fun q q0 q1 => by simp at q1; omega⟩ hcg
  rw [Nat.zero_add] at hO
  have hH := half_go l0 l0.length 0 (List.replicate 64 false) (List.replicate 64 z33) (List.replicate 64 0) [] r (by simp) (by simp) hchk (fun t _ _ ht => by
    rw [rdOf_rep] at ht
    cases ht) rfl hcg
  refine ⟨r, own, hl, hchk, hA, hcg, hr, hO, seq_of l0 r hE hl hA, hW, by omega, fun g => hG g _ fun t t0 t1 => ?_⟩
  unfold rd
  rw [List.getD_eq_getElem?_getD, List.getElem?_replicate]
  split <;> rfl
theorem All.tw {l0 : List S67} {r : List S38} {own : Nat → Int} (h : All l0 r own) : ∀ x ∈ r, x.f4 = -1 ∨ 0 ≤ x.f4 := by
  intro x hx
  obtain ⟨i, hi, rfl⟩ := List.mem_iff_getElem.1 hx
  rw [rd38_get r i hi]
  rcases h.ow.tw (i : Int) (by omega) (by omega) with h | h
  · exact .inl h
  · exact .inr h.1.1
theorem All.lt {l0 : List S67} {r : List S38} {own : Nat → Int} (h : All l0 r own) : ∀ x ∈ r, x.f4 = -1 ∨ x.f3 < x.f4 := by
  intro x hx
  obtain ⟨i, hi, rfl⟩ := List.mem_iff_getElem.1 hx
  rw [rd38_get r i hi]
  exact h.ow.lt (i : Int) (by omega) (by omega)
structure Rising (xs : List S38) : Prop where
  mo : ∀ i k : Nat, i < k → k < xs.length → (J38 xs (i : Int)).f3 < (J38 xs (k : Int)).f3
  lt : ∀ i : Nat, i < xs.length → (J38 xs (i : Int)).f4 = -1 ∨ (J38 xs (i : Int)).f3 < (J38 xs (i : Int)).f4
theorem Rising.up {xs : List S38} (h : Rising xs) : ∀ i k : Nat, i < k → k < xs.length → aheadB (J38 xs (k : Int)) (J38 xs (i : Int)) = false := by
  intro i k hik hk
  have h1 := h.mo i k hik hk
  have h2 := h.lt k hk
  cases hh : aheadB (J38 xs (k : Int)) (J38 xs (i : Int)) with
  | false => rfl
  | true =>
    rw [aheadB_iff] at hh
    omega
theorem Rising.self {xs : List S38} (h : Rising xs) : ∀ i : Nat, i < xs.length → aheadB (J38 xs (i : Int)) (J38 xs (i : Int)) = false := by
  intro i hi
  have h2 := h.lt i hi
  cases hh : aheadB (J38 xs (i : Int)) (J38 xs (i : Int)) with
  | false => rfl
  | true =>
    rw [aheadB_iff] at hh
    omega
theorem Rising.tr {xs : List S38} (h : Rising xs) : ∀ i k m : Nat, i < xs.length → k < xs.length → m < xs.length → aheadB (J38 xs (i : Int)) (J38 xs (k : Int)) = true → aheadB (J38 xs (k : Int)) (J38 xs (m : Int)) = true → aheadB (J38 xs (i : Int)) (J38 xs (m : Int)) = true := by
  intro i k m hi hk hm h1 h2
  have := h.lt k hk
  rw [aheadB_iff] at h1 h2 ⊢
  omega
theorem All.rising {l0 : List S67} {r : List S38} {own : Nat → Int} (h : All l0 r own) : Rising r :=
  ⟨fun i k hik hk => h.sq.mo (i : Int) (k : Int) (by omega) (by omega) (by omega), fun i hi => h.ow.lt (i : Int) (by omega) (by omega)⟩
theorem Rising.don {r : List S38} (h : Rising r) : Rising (donL r) := by
  have hpw : r.Pairwise (fun a b => a.f3 < b.f3) := by
    rw [List.pairwise_iff_getElem]
    intro i j hi hj hij
    rw [rd38_get r i hi, rd38_get r j hj]
    exact h.mo i j hij hj
  have hpd : (donL r).Pairwise (fun a b => a.f3 < b.f3) := hpw.filter _
  rw [List.pairwise_iff_getElem] at hpd
  refine ⟨fun i k hik hk => ?_, fun i hi => ?_⟩
  · have := hpd i k (by omega) hk hik
    rwa [rd38_get (donL r) i (by omega), rd38_get (donL r) k hk] at this
  · have hm : J38 (donL r) (i : Int) ∈ r := (List.mem_filter.1 (rd38_mem' (donL r) (i : Int) ⟨by omega, by omega⟩)).1
    obtain ⟨q, hq, he⟩ := List.mem_iff_getElem.1 hm
    rw [← he, rd38_get r q hq]
    exact h.lt q hq
theorem don_f4 (r : List S38) (x : S38) (h : x ∈ donL r) : 0 ≤ x.f4 := by
  have := (List.mem_filter.1 h).2
  unfold pendB at this
  simpa using this
theorem orders_val (y : List S67) (r : List S38) (hA : event_Calls.f y = some (r, 0)) (h12 : (donL r).length ≤ 12) (hR : Rising (donL r)) : event_Orders.f y = some ((F (donL r) (2 ^ (donL r).length - 1) : Int), 0) := by
  have hbf := bfI_val (donL r) (donL r).length 0 (List.replicate (donL r).length 0) (by omega) (by omega) (by simp) (fun q hq => by
    rw [if_neg (by omega)]
    unfold rd
    rw [List.getD_eq_getElem?_getD, List.getElem?_replicate]
    split <;> rfl)
  unfold event_Orders.f
  rw [hA]
  simp only [Option.bind_some, if_true]
  rw [if_neg (by omega), wyS_val (donL r) (by omega) hR.self _ hbf (2 ^ (donL r).length) 0 _ (by omega) (by simp)]
  simp only [Option.map_some]
  rw [dp_count (donL r) h12]
section
variable (xs xs' : List S38)
theorem alK_congr (hl : xs'.length = xs.length) (h : ∀ i k : Nat, i < xs.length → k < xs.length → aheadB (J38 xs' (i : Int)) (J38 xs' (k : Int)) = aheadB (J38 xs (i : Int)) (J38 xs (k : Int))) (s i : Nat) (hi : i < xs.length) : ∀ d k, k + d ≤ xs.length → alK xs' s i d k = alK xs s i d k
  | 0, _, _ => rfl
  | d + 1, k, hk => by
    rw [alK_succ, alK_succ, h k i (by omega) hi, alK_congr hl h s i hi d (k + 1) (by omega)]
theorem okS_congr (hl : xs'.length = xs.length) (h : ∀ i k : Nat, i < xs.length → k < xs.length → aheadB (J38 xs' (i : Int)) (J38 xs' (k : Int)) = aheadB (J38 xs (i : Int)) (J38 xs (k : Int))) (s i : Nat) (hi : i < xs.length) : okS xs' s i = okS xs s i := by
  unfold okS
  rw [hl, alK_congr xs xs' hl h s i hi xs.length 0 (by omega)]
theorem fF_congr (hl : xs'.length = xs.length) (h : ∀ i k : Nat, i < xs.length → k < xs.length → aheadB (J38 xs' (i : Int)) (J38 xs' (k : Int)) = aheadB (J38 xs (i : Int)) (J38 xs (k : Int))) : ∀ k t, fF xs' k t = fF xs k t
  | 0, _ => rfl
  | k + 1, t => by
    unfold fF
    rw [hl]
    by_cases e : t = 0
    · rw [if_pos e, if_pos e]
    · rw [if_neg e, if_neg e]
      refine sm_congr _ _ _ fun i hi => ?_
      rw [okS_congr xs xs' hl h _ i hi, fF_congr hl h k]
end
theorem fG_don (r : List S38) (mu : S38 → S38) (G : Nat → Bool) : ∀ (out : List S38) (q : Nat), (∀ i (h : i < out.length), G (q + i) = !pendB out[i]) → fG G mu out q = (donL out).map mu
  | [], _, _ => rfl
  | x :: xs, q, h => by
    have h0 := h 0 (by simp)
    rw [Nat.add_zero] at h0
    have h0' : G q = !pendB x := h0
    have ih := fG_don r mu G xs (q + 1) (fun i hi => by
      have := h (i + 1) (by simpa using hi)
      rw [show q + (i + 1) = q + 1 + i by omega] at this
      exact this)
    rw [fG_cons, ih]
    unfold donL
    cases hx : pendB x with
    | true =>
      rw [if_neg (by rw [h0', hx]; decide), List.filter_cons_of_neg (by rw [hx]; decide)]
    | false =>
      rw [if_pos (by rw [h0', hx]; rfl), List.filter_cons_of_pos (by rw [hx]; rfl), List.map_cons]
theorem rd38_map (xs : List S38) (mu : S38 → S38) (i : Nat) (h : i < xs.length) : J38 (xs.map mu) (i : Int) = mu (J38 xs (i : Int)) := by
  unfold J38
  rw [Int.toNat_natCast, List.getD_eq_getElem?_getD, List.getD_eq_getElem?_getD, List.getElem?_map, List.getElem?_eq_getElem h]
  rfl
theorem done_val (l0 : List S67) (hp : ∀ e ∈ l0, e.f3.f3.length ≤ 1048576) (r : List S38) (own : Nat → Int) (h : All l0 r own) : ∃ (v : List S67) (r' : List S38) (own' : Nat → Int), event_Done.f l0 = some (v, 0) ∧ event_Check.f v = some 0 ∧ All v r' own' ∧ r'.length = (donL r).length ∧ donL r' = r' ∧
    ∀ i k : Nat, i < (donL r).length → k < (donL r).length → aheadB (J38 r' (i : Int)) (J38 r' (k : Int)) = aheadB (J38 (donL r) (i : Int)) (J38 (donL r) (k : Int)) := by
  obtain ⟨g, hg⟩ : ∃ g : Int → Bool, g = fun q => (J38 r q).f4 != -1 := ⟨_, rfl⟩
  obtain ⟨P, hP⟩ : ∃ P : Nat → Bool, P = fun i => g (own i) := ⟨_, rfl⟩
  obtain ⟨v, hv⟩ : ∃ v, v = keptL P l0 l0.length 0 [] := ⟨_, rfl⟩
  have hvf : v = flt l0 P l0.length 0 := by rw [hv, keptL_flt, List.nil_append]
  obtain ⟨wh, w1, w2, w3⟩ := places_val l0 r own h.ow h.len h.rl
  have hkc : keptL (doneP r wh) l0 l0.length 0 [] = v := by
    rw [hv]
    refine keptL_congr l0 _ _ _ _ _ fun i _ hi => ?_
    rw [hP, hg]
    unfold doneP
    rw [w3 i (by omega)]
    have h1 := (h.ow.al i (by omega)).1
    rcases h.ow.tw _ h1.1 h1.2 with h2 | h2
    · show decide _ = ((J38 r (own i)).f4 != -1)
      rw [h2]; rfl
    · show decide _ = ((J38 r (own i)).f4 != -1)
      rw [decide_eq_true (by omega)]
      exact (bne_iff_ne.mpr (by omega)).symm
  have hD : event_Done.f l0 = some (v, 0) := by
    unfold event_Done.f
    rw [h.calls]
    simp only [Option.bind_some, if_true]
    rw [w1]
    simp only [Option.bind_some]
    rw [if_pos ⟨⟨⟨h.len, hp⟩, w2⟩, fun x hx => by
      obtain ⟨i, hi, rfl⟩ := mem_rd wh x hx
      rw [w3 i (by omega)]
      exact (h.ow.al i (by omega)).1⟩, hkc]
  have hck : event_Check.f v = some 0 := by
    rw [hv, hP]
    exact kept_chk l0 _ _ h.len h.chk (h.rs g)
  have hvp : ∀ e ∈ v, e.f3.f3.length ≤ 1048576 := fun e he => by
    rw [hv] at he
    rcases keptL_mem _ l0 l0.length 0 [] (by omega) e he with hh | hh
    · simp at hh
    · exact hp e hh
  obtain ⟨r', own', hall⟩ := all_of2 v hvp hck
  obtain ⟨G, hG⟩ : ∃ G : Nat → Bool, G = fun (q : Nat) => g (q : Int) := ⟨_, rfl⟩
  have hkg := kept_calls l0 own g P hP G hG v hvf l0.length 0 (List.replicate 64 false) (List.replicate 64 z33) (List.replicate 64 0) (List.replicate 64 0) [] r (by omega) (by simp) (by simp) (by simp) h.chk (fun t _ _ ht => by
    rw [rdOf_rep] at ht
    cases ht) h.wk h.go
  have hvl := flt_len l0 P l0.length 0
  rw [← hvf, Nat.zero_add, show rho P 0 = 0 from rfl, Nat.add_zero] at hvl
  rw [show rho P 0 = 0 from rfl, Nat.sub_zero, ← hvl] at hkg
  have hgo := hall.go
  have hrr : r' = (donL r).map (muP P) := by
    have h1 : fG G (muP P) r 0 = r' := by
      have h2 : callsGo v v.length 0 (List.replicate 64 0) [] = some (fG G (muP P) r 0) := hkg
      rw [hgo] at h2
      exact (Option.some.inj h2).symm
    rw [← h1]
    refine fG_don r (muP P) G r 0 fun i hi => ?_
    rw [Nat.zero_add, hG, hg, rd38_get r i hi]
    show ((J38 r (i : Int)).f4 != -1) = !pendB (J38 r (i : Int))
    unfold pendB
    rcases h.ow.tw (i : Int) (by omega) (by omega) with h2 | h2
    · rw [h2]; rfl
    · rw [decide_eq_false (by omega)]
      exact bne_iff_ne.mpr (by omega)
  refine ⟨v, r', own', hD, hck, hall, by rw [hrr, List.length_map], ?_, fun i k hi hk => ?_⟩
  · unfold donL
    rw [List.filter_eq_self]
    intro x hx
    rw [hrr] at hx
    obtain ⟨a, ha, rfl⟩ := List.mem_map.1 hx
    have h4 := don_f4 r a ha
    unfold pendB muP
    simp only
    rw [if_neg (by omega), decide_eq_false (by omega)]
    rfl
  · rw [hrr, rd38_map _ _ i hi, rd38_map _ _ k hk]
    have ma := rd38_mem' (donL r) (i : Int) ⟨by omega, by omega⟩
    have mb := rd38_mem' (donL r) (k : Int) ⟨by omega, by omega⟩
    obtain ⟨a, hae⟩ : ∃ a, a = J38 (donL r) (i : Int) := ⟨_, rfl⟩
    obtain ⟨b, hbe⟩ : ∃ b, b = J38 (donL r) (k : Int) := ⟨_, rfl⟩
    rw [← hae] at ma ⊢
    rw [← hbe] at mb ⊢
    have a4 := don_f4 r a ma
    obtain ⟨qa, hqa, ea⟩ := List.mem_iff_getElem.1 (List.mem_filter.1 ma).1
    obtain ⟨qb, hqb, eb⟩ := List.mem_iff_getElem.1 (List.mem_filter.1 mb).1
    rw [rd38_get r qa hqa] at ea
    rw [rd38_get r qb hqb] at eb
    have hown : own a.f4.toNat = (qa : Int) := by
      rcases h.ow.tw (qa : Int) (by omega) (by omega) with h2 | h2
      · rw [ea] at h2; omega
      · rw [ea] at h2; exact h2.2
    have hPa : P a.f4.toNat = true := by
      rw [hP, hg]
      show ((J38 r (own a.f4.toNat)).f4 != -1) = true
      rw [hown, ea]
      exact bne_iff_ne.mpr (by omega)
    have hb3 := (h.ow.fr (qb : Int) (by omega) (by omega)).1
    rw [eb] at hb3
    apply Bool.eq_iff_iff.mpr
    rw [aheadB_iff, aheadB_iff]
    have hl := rho_lt P a.f4.toNat b.f3.toNat hPa
    unfold muP
    simp only
    rw [if_neg (by omega)]
    omega
theorem fits_val (y : List S67) (r : List S38) (hA : event_Calls.f y = some (r, 0)) (hr : r.length ≤ 100000) (o : List Int) (hl : o.length ≤ 1048576) (hin : ∀ j : Nat, j < o.length → 0 ≤ rd o (j : Int) ∧ rd o (j : Int) < r.length) (hnd : ∀ i j : Nat, i < j → j < o.length → rd o (i : Int) ≠ rd o (j : Int)) :
    ∃ b : Bool, Ev (fun k => event_Fits.f k y o) (b, 0) ∧ (b = true ↔ (∀ q : Nat, q < r.length → 0 ≤ (J38 r (q : Int)).f4 → ∃ i : Nat, i < o.length ∧ rd o (i : Int) = (q : Int)) ∧ Tidy r o o.length) := by
  obtain ⟨b2, e2, t2⟩ := fit_e2 r o hl hin o.length 0 (-1) (by omega) (fun v hv => ⟨fun h => by omega, fun ⟨i, a, _⟩ => by omega⟩) (fun i k a b => by omega)
  -- the second loop
  have l1 : ∀ (pl : List Int), pl.length = r.length → (∀ q : Nat, q < r.length → (rd pl (q : Int) = 0 ↔ ¬ ∃ i : Nat, i < o.length ∧ rd o (i : Int) = (q : Int))) → ∀ d (j : Nat), j + d = r.length → (∀ q : Nat, q < j → 0 ≤ (J38 r (q : Int)).f4 → ∃ i : Nat, i < o.length ∧ rd o (i : Int) = (q : Int)) →
      ∃ b : Bool, Ev (fun k => event_Fits.l1 k o r pl r (r.length : Int) (j : Int)) (b, 0) ∧ (b = true ↔ (∀ q : Nat, q < r.length → 0 ≤ (J38 r (q : Int)).f4 → ∃ i : Nat, i < o.length ∧ rd o (i : Int) = (q : Int)) ∧ Tidy r o o.length) := by
    intro pl hpl hI d
    induction d with
    | zero =>
      intro j hd hq
      refine ⟨b2, Ev.succ (e2.congr fun k => ?_), by rw [t2]; exact ⟨fun h => ⟨fun q hh => hq q (by omega), h⟩, fun h => h.2⟩⟩
      simp only [event_Fits.l1]
      rw [if_neg (by omega)]
      rfl
    | succ d ih =>
      intro j hd hq
      by_cases h4 : (J38 r (j : Int)).f4 ≥ 0
      · by_cases hz : rd pl (j : Int) = 0
        · refine ⟨false, Ev.succ ((Ev.const _).congr fun k => ?_), ⟨fun h => (by cases h), fun h => absurd (h.1 j (by omega) h4) ((hI j (by omega)).1 hz)⟩⟩
          simp only [event_Fits.l1]
          rw [if_pos (by omega), if_pos (by omega), if_pos (by omega), if_pos h4, if_pos (by omega), if_pos hz]
        · obtain ⟨b, h1, h2⟩ := ih (j + 1) (by omega) (fun q hh h5 => by
            by_cases e : q = j
            · rw [e]
              exact Decidable.byContradiction fun h6 => hz ((hI j (by omega)).2 h6)
            · exact hq q (by omega) h5)
          refine ⟨b, Ev.succ (h1.congr fun k => ?_), h2⟩
          simp only [event_Fits.l1]
          rw [if_pos (by omega), if_pos (by omega), if_pos (by omega), if_pos h4, if_pos (by omega), if_neg hz, wrap_succ (by omega)]
      · obtain ⟨b, h1, h2⟩ := ih (j + 1) (by omega) (fun q hh h5 => by
          by_cases e : q = j
          · rw [e] at h5; exact absurd h5 h4
          · exact hq q (by omega) h5)
        refine ⟨b, Ev.succ (h1.congr fun k => ?_), h2⟩
        simp only [event_Fits.l1]
        rw [if_pos (by omega), if_pos (by omega), if_pos (by omega), if_neg h4, wrap_succ (by omega)]
  have l0 : ∀ d (j : Nat) (pl : List Int), j + d = o.length → pl.length = r.length → (∀ q : Nat, q < r.length → (rd pl (q : Int) = 0 ↔ ¬ ∃ i : Nat, i < j ∧ rd o (i : Int) = (q : Int))) →
      ∃ b : Bool, Ev (fun k => event_Fits.l0 k o r pl o (o.length : Int) (j : Int)) (b, 0) ∧ (b = true ↔ (∀ q : Nat, q < r.length → 0 ≤ (J38 r (q : Int)).f4 → ∃ i : Nat, i < o.length ∧ rd o (i : Int) = (q : Int)) ∧ Tidy r o o.length) := by
    intro d
    induction d with
    | zero =>
      intro j pl hd hpl hI
      have e : j = o.length := by omega
      rw [e] at hI
      obtain ⟨b, h1, h2⟩ := l1 pl hpl hI r.length 0 (by omega) (fun q hh => by omega)
      refine ⟨b, Ev.succ (h1.congr fun k => ?_), h2⟩
      simp only [event_Fits.l0]
      rw [if_neg (by omega)]
      rfl
    | succ d ih =>
      intro j pl hd hpl hI
      obtain ⟨v, hv⟩ : ∃ v, v = rd o (j : Int) := ⟨_, rfl⟩
      have hvr := hin j (by omega)
      rw [← hv] at hvr
      have hz : rd pl v = 0 := by
        have := (hI v.toNat (by omega)).2 (fun ⟨i, a, b⟩ => hnd i j a (by omega) (by rw [b, ← hv]; omega))
        rwa [Int.toNat_of_nonneg hvr.1] at this
      obtain ⟨b, h1, h2⟩ := ih (j + 1) (pl.set v.toNat (((j + 1 : Nat)) : Int)) (by omega) (by simpa using hpl) (fun q hq => by
        rw [rd_set _ _ _ _ (by omega) (by omega)]
        by_cases e : (q : Int) = v
        · rw [if_pos e]
          exact ⟨fun h => by omega, fun h => absurd ⟨j, by omega, by rw [e, hv]⟩ h⟩
        · rw [if_neg e, hI q hq]
          constructor
          · rintro h ⟨i, a, b⟩
            by_cases e2 : i = j
            · rw [e2, ← hv] at b; exact e b.symm
            · exact h ⟨i, by omega, b⟩
          · rintro h ⟨i, a, b⟩
            exact h ⟨i, by omega, b⟩)
      refine ⟨b, Ev.succ (h1.congr fun k => ?_), h2⟩
      simp only [event_Fits.l0, ← hv]
      rw [if_pos (by omega), if_pos (by omega), if_pos (by omega), if_neg (by omega), if_neg (by omega), if_pos hvr.1, if_pos (by omega), if_neg (by omega), wrap_succ (by omega)]
  obtain ⟨b, h1, h2⟩ := l0 o.length 0 (List.replicate r.length 0) (by omega) (by simp) (fun q hq => by
    have : rd (List.replicate r.length 0) (q : Int) = 0 := by
      unfold rd
      rw [List.getD_eq_getElem?_getD, List.getElem?_replicate]
      split <;> rfl
    rw [this]
    exact ⟨fun _ ⟨i, a, _⟩ => by omega, fun _ => rfl⟩)
  refine ⟨b, ?_, h2⟩
  unfold event_Fits.f
  rw [hA]
  simp only [Option.bind_some, if_true]
  refine h1.congr fun k => ?_
  rw [if_pos (by omega), if_pos (by omega)]
  rfl
def ord (m : Nat) : List Int := (List.range m).map fun (i : Nat) => (i : Int)
theorem ord_len (m : Nat) : (ord m).length = m := by simp [ord]
theorem ord_succ (m : Nat) : ord (m + 1) = ord m ++ [(m : Int)] := by
  unfold ord
  rw [List.range_succ, List.map_append]
  rfl
theorem ord_rd (m i : Nat) (h : i < m) : rd (ord m) (i : Int) = (i : Int) := by
  unfold rd ord
  rw [Int.toNat_natCast, List.getD_eq_getElem?_getD, List.getElem?_map, List.getElem?_range h]
  rfl
theorem less_rd (m i q : Nat) (h : i < m) (hq : q < m - 1) : rd ((ord m).take i ++ (ord m).drop (i + 1)) (q : Int) = if q < i then (q : Int) else ((q + 1 : Nat) : Int) := by
  have hl : ((ord m).take i).length = i := by rw [List.length_take, ord_len]; omega
  unfold rd
  rw [Int.toNat_natCast, List.getD_eq_getElem?_getD]
  by_cases e : q < i
  · rw [if_pos e, List.getElem?_append_left (by omega), List.getElem?_take, if_pos e]
    have := ord_rd m q (by omega)
    unfold rd at this
    rwa [Int.toNat_natCast, List.getD_eq_getElem?_getD] at this
  · rw [if_neg e, List.getElem?_append_right (by omega), hl, List.getElem?_drop, show i + 1 + (q - i) = q + 1 by omega]
    have := ord_rd m (q + 1) (by omega)
    unfold rd at this
    rwa [Int.toNat_natCast, List.getD_eq_getElem?_getD] at this
section
variable (y : List S67) (r : List S38) (own : Nat → Int)
theorem fits_ord (h : All y r own) : Ev (fun k => event_Fits.f k y (ord r.length)) (true, 0) := by
  have hlen := ord_len r.length
  have h1 := h.len
  have h2 := h.rl
  obtain ⟨b, hb, hi⟩ := fits_val y r h.calls (by omega) (ord r.length) (by omega) (fun j hj => by rw [ord_rd _ j (by omega)]; omega) (fun i j a b => by rw [ord_rd _ i (by omega), ord_rd _ j (by omega)]; omega)
  have : b = true := hi.2 ⟨fun q hq _ => ⟨q, by omega, ord_rd _ q hq⟩, fun i k a b => by
    rw [ord_rd _ i (by omega), ord_rd _ k (by omega)]
    exact h.rising.up i k a (by omega)⟩
  rw [this] at hb
  exact hb
theorem turn_rd (m i q : Nat) (h : i + 1 < m) (hq : q < m) : rd (((ord m).set i (((i + 1 : Nat)) : Int)).set (i + 1) (i : Int)) (q : Int) = if q = i + 1 then (i : Int) else if q = i then (((i + 1 : Nat)) : Int) else (q : Int) := by
  have hl := ord_len m
  have s1 := rd_set ((ord m).set i (((i + 1 : Nat)) : Int)) (((i + 1 : Nat)) : Int) (q : Int) (i : Int)
  have s2 := rd_set (ord m) (i : Int) (q : Int) (((i + 1 : Nat)) : Int)
  rw [Int.toNat_natCast] at s1 s2
  rw [s1 (by rw [List.length_set]; omega) (by omega), s2 (by omega) (by omega), ord_rd m q hq]
  by_cases e1 : q = i + 1
  · rw [if_pos (by omega), if_pos e1]
  · rw [if_neg (by omega), if_neg e1]
    by_cases e2 : q = i
    · rw [if_pos (by omega), if_pos e2]
    · rw [if_neg (by omega), if_neg e2]
theorem fits_turn (h : All y r own) (i : Nat) (hi : i + 1 < r.length) : Ev (fun k => event_Fits.f k y (((ord r.length).set i (((i + 1 : Nat)) : Int)).set (i + 1) (i : Int))) (!aheadB (J38 r (i : Int)) (J38 r (((i + 1 : Nat)) : Int)), 0) := by
  have h1 := h.len
  have h2 := h.rl
  obtain ⟨o, ho⟩ : ∃ o, o = ((ord r.length).set i (((i + 1 : Nat)) : Int)).set (i + 1) (i : Int) := ⟨_, rfl⟩
  have hol : o.length = r.length := by rw [ho, List.length_set, List.length_set, ord_len]
  have hrd : ∀ q : Nat, q < r.length → rd o (q : Int) = if q = i + 1 then (i : Int) else if q = i then (((i + 1 : Nat)) : Int) else (q : Int) := fun q hq => by rw [ho]; exact turn_rd r.length i q hi hq
  obtain ⟨b, hb, hib⟩ := fits_val y r h.calls (by omega) o (by omega) (fun j hj => by rw [hrd j (by omega)]; split <;> (try split) <;> omega) (fun p j a b => by rw [hrd p (by omega), hrd j (by omega)]; split <;> (try split) <;> (try split) <;> (try split) <;> omega)
  rw [← ho]
  have : b = !aheadB (J38 r (i : Int)) (J38 r (((i + 1 : Nat)) : Int)) := by
    apply Bool.eq_iff_iff.mpr
    rw [hib, Bool.not_eq_true']
    constructor
    · rintro ⟨-, ht⟩
      have := ht i (i + 1) (by omega) (by omega)
      rw [hrd i (by omega), hrd (i + 1) (by omega), if_pos rfl, if_neg (by omega), if_pos rfl] at this
      exact this
    · intro hf
      refine ⟨fun q hq _ => ?_, fun p k a b => ?_⟩
      · by_cases e1 : q = i
        · exact ⟨i + 1, by omega, by rw [hrd _ (by omega), if_pos rfl, e1]⟩
        · by_cases e2 : q = i + 1
          · exact ⟨i, by omega, by rw [hrd _ (by omega), if_neg (by omega), if_pos rfl, e2]⟩
          · exact ⟨q, by omega, by rw [hrd q hq, if_neg e2, if_neg e1]⟩
      · rw [hol] at b
        rw [hrd p (by omega), hrd k (by omega)]
        by_cases k1 : k = i + 1
        · rw [if_pos k1]
          by_cases p1 : p = i
          · rw [if_neg (by omega), if_pos p1]
            exact hf
          · rw [if_neg (by omega), if_neg p1]
            exact h.rising.up p i (by omega) (by omega)
        · rw [if_neg k1]
          by_cases k2 : k = i
          · rw [if_pos k2, if_neg (by omega), if_neg (by omega)]
            exact h.rising.up p (i + 1) (by omega) (by omega)
          · rw [if_neg k2]
            by_cases p1 : p = i + 1
            · rw [if_pos p1]
              exact h.rising.up i k (by omega) (by omega)
            · rw [if_neg p1]
              by_cases p2 : p = i
              · rw [if_pos p2]
                exact h.rising.up (i + 1) k (by omega) (by omega)
              · rw [if_neg p2]
                exact h.rising.up p k a (by omega)
  rw [← this]
  exact hb
theorem fits_less (h : All y r own) (i : Nat) (hi : i < r.length) : Ev (fun k => event_Fits.f k y ((ord r.length).take i ++ (ord r.length).drop (i + 1))) ((J38 r (i : Int)).f4 == -1, 0) := by
  have h1 := h.len
  have h2 := h.rl
  obtain ⟨o, ho⟩ : ∃ o, o = (ord r.length).take i ++ (ord r.length).drop (i + 1) := ⟨_, rfl⟩
  have hol : o.length = r.length - 1 := by rw [ho, List.length_append, List.length_take, List.length_drop, ord_len]; omega
  have hrd : ∀ q : Nat, q < r.length - 1 → rd o (q : Int) = if q < i then (q : Int) else ((q + 1 : Nat) : Int) := fun q hq => by rw [ho]; exact less_rd r.length i q hi hq
  obtain ⟨b, hb, hib⟩ := fits_val y r h.calls (by omega) o (by omega) (fun j hj => by rw [hrd j (by omega)]; split <;> omega) (fun p j a b => by rw [hrd p (by omega), hrd j (by omega)]; split <;> (try split) <;> omega)
  rw [← ho]
  have h4 := h.ow.tw (i : Int) (by omega) (by omega)
  have : b = ((J38 r (i : Int)).f4 == -1) := by
    apply Bool.eq_iff_iff.mpr
    rw [hib, beq_iff_eq]
    constructor
    · rintro ⟨hq, -⟩
      refine Decidable.byContradiction fun hne => ?_
      obtain ⟨p, hp, he⟩ := hq i hi (by omega)
      rw [hrd p (by omega)] at he
      split at he <;> omega
    · intro hf
      refine ⟨fun q hq h5 => ?_, fun p k a b => ?_⟩
      · have hqi : q ≠ i := fun hh => by rw [hh, hf] at h5; omega
        by_cases e : q < i
        · exact ⟨q, by omega, by rw [hrd q (by omega), if_pos e]⟩
        · exact ⟨q - 1, by omega, by rw [hrd (q - 1) (by omega), if_neg (by omega)]; omega⟩
      · rw [hol] at b
        rw [hrd p (by omega), hrd k (by omega)]
        by_cases e1 : k < i
        · rw [if_pos e1, if_pos (by omega)]
          exact h.rising.up p k a (by omega)
        · rw [if_neg e1]
          by_cases e2 : p < i
          · rw [if_pos e2]
            exact h.rising.up p (k + 1) (by omega) (by omega)
          · rw [if_neg e2]
            exact h.rising.up (p + 1) (k + 1) (by omega) (by omega)
  rw [← this]
  exact hb
theorem rows_end (hy : y.length ≤ 24) (hp : ∀ e ∈ y, e.f3.f3.length ≤ 1048576) (hE : event_Check.f y = some 0) (h : All y r own) (k0 : Nat) (hk : ¬ (k0 + 1 < r.length)) (hks : k0 ≤ 1000) : Ev (fun k => larchlaw05_EventRows.l1 k y r (ord r.length) (k0 : Int)) true := by
  have h1 := h.len
  have hhalf := h.half
  have hdl : (donL r).length ≤ r.length := List.length_filter_le _ _
  obtain ⟨v, r', own', hD, hck, hall, hl', hdon, hah⟩ := done_val y hp r own h
  have hRd := h.rising.don
  have o1 := orders_val y r h.calls (by omega) hRd
  have o2 := orders_val v r' hall.calls (by rw [hdon]; omega) (by rw [hdon]; exact hall.rising)
  rw [hdon, hl'] at o2
  have hFF : F r' (2 ^ (donL r).length - 1) = F (donL r) (2 ^ (donL r).length - 1) := fF_congr (donL r) r' hl' hah _ _
  rw [hFF] at o2
  obtain ⟨c1, c2⟩ := count_one (donL r) hRd.up hRd.tr
  obtain ⟨b, hb, hbi⟩ := row_val v hall.len hck r' own' hall.ow hall.sq
  obtain ⟨n, hn⟩ : ∃ n, n = F (donL r) (2 ^ (donL r).length - 1) := ⟨_, rfl⟩
  rw [← hn] at o1 o2 c1 c2
  have hlast : ((n : Int) == 1) = b := by
    apply Bool.eq_iff_iff.mpr
    rw [hbi, beq_iff_eq]
    constructor
    · intro hh i k i0 ik k1
      have := c2.1 (by omega) i.toNat k.toNat (by omega) (by omega)
      rw [← hah i.toNat k.toNat (by omega) (by omega), Int.toNat_of_nonneg (by omega), Int.toNat_of_nonneg (by omega)] at this
      exact this
    · intro hh
      have := c2.2 (fun i k ik k1 => by
        rw [← hah i k (by omega) k1]
        exact hh (i : Int) (k : Int) (by omega) (by omega) (by omega))
      omega
  refine Ev.succ (Ev.congr (g := fun k => (event_Row.f k v).bind fun t => if t.2 = 0 then (if (n : Int) ≥ 1 then some (((n : Int) == 1) == t.1) else none) else none) ?_ fun k => ?_)
  · refine Ev.bind hb ?_
    simp only [if_true]
    refine (Ev.const true).congr fun k => ?_
    rw [if_pos (by omega), hlast, beq_self_eq_true]
  · simp only [larchlaw05_EventRows.l1]
    rw [wrap_succ (by omega), if_neg (by omega), hD]
    simp only [Option.bind_some]
    rw [o1]
    simp only [Option.bind_some]
    rw [o2]
    simp only [Option.bind_some, if_true]
theorem rows_l1 (hy : y.length ≤ 24) (hp : ∀ e ∈ y, e.f3.f3.length ≤ 1048576) (hE : event_Check.f y = some 0) (h : All y r own) : ∀ d (i : Nat), i + d = r.length → Ev (fun k => larchlaw05_EventRows.l1 k y r (ord r.length) (i : Int)) true
  | 0, i, hd => rows_end y r own hy hp hE h i (by omega) (by have := h.rl; omega)
  | d + 1, i, hd => by
    have hrl := h.rl
    by_cases hi : i + 1 < r.length
    rotate_left
    · exact rows_end y r own hy hp hE h i hi (by omega)
    have hol := ord_len r.length
    have ha := ahead_val y r h.calls (i : Int) (((i + 1 : Nat)) : Int) ⟨by omega, by omega⟩ ⟨by omega, by omega⟩
    obtain ⟨a, hae⟩ : ∃ a, a = aheadB (J38 r (i : Int)) (J38 r (((i + 1 : Nat)) : Int)) := ⟨_, rfl⟩
    have ht := fits_turn y r own h i hi
    have hl := fits_less y r own h i (by omega)
    rw [← hae] at ha ht
    refine Ev.succ (Ev.congr (g := fun k => (event_Fits.f k y (((ord r.length).set i (((i + 1 : Nat)) : Int)).set (i + 1) (i : Int))).bind fun b1 => (event_Fits.f k y ((ord r.length).take i ++ (ord r.length).drop (i + 1))).bind fun b2 => if b1.2 = 0 then (if b2.2 = 0 then (if (b1.1 == a) = true then none else (if (b2.1 != ((J38 r (i : Int)).f4 == -1)) = true then none else larchlaw05_EventRows.l1 k y r (ord r.length) (((i + 1 : Nat)) : Int))) else none) else none) ?_ fun k => ?_)
    · refine Ev.bind ht (Ev.bind hl ?_)
      simp only [if_true]
      refine (rows_l1 hy hp hE h d (i + 1) (by omega)).congr fun k => ?_
      rw [if_neg (by cases a <;> decide), if_neg (by simp)]
    · simp only [larchlaw05_EventRows.l1]
      rw [wrap_succ (by omega), if_pos (by omega)]
      simp only [Option.bind_some, List.nil_append, List.length_nil, Nat.zero_add]
      rw [if_pos (by omega)]
      try simp only [Option.bind_some]
      rw [if_pos (by omega), if_pos (by omega), if_pos (by omega), if_pos (by omega), ha]
      simp only [Option.bind_some, if_true, Int.toNat_natCast]
      congr 1
      funext b1
      rw [if_pos (by omega), if_pos (by rw [List.length_take]; omega), if_pos (by omega), if_pos (by rw [List.length_take, List.length_drop]; omega)]
      congr 1
      funext b2
      rw [if_pos (show (i : Int) < (r.length : Int) by omega)]
theorem rows_l0 (hy : y.length ≤ 24) (hp : ∀ e ∈ y, e.f3.f3.length ≤ 1048576) (hE : event_Check.f y = some 0) (h : All y r own) : ∀ d (i : Nat), i + d = r.length → Ev (fun k => larchlaw05_EventRows.l0 k y r (ord i) (i : Int)) true
  | 0, i, hd => by
    have e : i = r.length := by omega
    subst e
    have j1 : Ev (fun k => larchlaw05_EventRows.j1 k y r (ord r.length) false) true := by
      refine Ev.succ ((rows_l1 y r own hy hp hE h r.length 0 (by omega)).congr fun k => ?_)
      simp only [larchlaw05_EventRows.j1]
      rw [if_neg (by decide)]
      rfl
    refine Ev.succ (Ev.congr (g := fun k => (event_Fits.f k y (ord r.length)).bind fun b => if b.2 = 0 then larchlaw05_EventRows.j1 k y r (ord r.length) (!b.1) else larchlaw05_EventRows.j1 k y r (ord r.length) true) ?_ fun k => ?_)
    · refine Ev.bind (fits_ord y r own h) ?_
      simp only [if_true]
      exact j1
    · simp only [larchlaw05_EventRows.l0]
      rw [if_neg (by omega)]
  | d + 1, i, hd => by
    have hrl := h.rl
    have hol := ord_len i
    have ih := rows_l0 hy hp hE h d (i + 1) (by omega)
    rw [ord_succ] at ih
    refine Ev.succ (ih.congr fun k => ?_)
    simp only [larchlaw05_EventRows.l0]
    rw [if_pos (by omega), if_pos (by omega), wrap_succ (by omega)]
end
theorem rows_pure : EventRowsPure := by
  intro l0 hl0 hp
  refine Ev.ex (f := fun k => larchlaw05_EventRows.f k l0) ?_
  obtain ⟨y, hy⟩ : ∃ y, y = l0.take (min l0.length 24) := ⟨_, rfl⟩
  have hyl : y.length ≤ 24 := by rw [hy, List.length_take]; omega
  have hyp : ∀ e ∈ y, e.f3.f3.length ≤ 1048576 := fun e he => hp e (List.mem_of_mem_take (by rw [hy] at he; exact he))
  have hm := mn_val l0.length 24
  have step : ∀ k, larchlaw05_EventRows.f k l0 = ((event_Calls.f y).bind fun bt534 => (if bt534.2 = 0 then (larchlaw05_EventRows.l0 k y bt534.1 ([] : List Int) 0) else (some true))) := by
    intro k
    unfold larchlaw05_EventRows.f
    rw [known_ok3]
    simp only [Option.bind_some, if_true]
    rw [show (24 : Int) = ((24 : Nat) : Int) from rfl, hm, if_pos (by omega), if_pos (by omega), Int.toNat_natCast, ← hy]
  obtain ⟨c, hE, hR, -⟩ := check_both y
  by_cases e0 : c = 0
  · subst e0
    obtain ⟨r, own, h⟩ := all_of2 y hyp hE
    refine (rows_l0 y r own hyl hyp hE h r.length 0 (by omega)).congr fun k => ?_
    rw [step, h.calls]
    rfl
  · obtain ⟨hA, -⟩ := bad_of y c hE e0
    refine (Ev.const true).congr fun k => ?_
    rw [step, hA]
    simp only [Option.bind_some, if_neg e0]
theorem eventRows_holds : Rows.EventRowsUptoSaid := EventRows_of rows_pure
end Go.Proofs.Ytagdkmcgepidoaa.P
#print axioms Go.Proofs.Ytagdkmcgepidoaa.P.eventRows_holds
