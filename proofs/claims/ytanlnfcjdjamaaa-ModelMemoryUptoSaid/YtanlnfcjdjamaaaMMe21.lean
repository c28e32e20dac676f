/- P.modelMemory_holds, part 22 of 37: the contracts of the Go functions that the law calls, its own walk, and its plain law, for every input that the statement speaks of. -/
import Derived.Test.YtanlnfcjdjamaaaMMe20
import Derived.Test.YtanlnfcjdjamaaaMMe2
set_option linter.unusedVariables false
set_option linter.unusedSimpArgs false
/- E14 -/
namespace Go.Proofs.Ytanlnfcjdjamaaa.P
open Go.RowKit Go.Proofs.YtanlnfcjdjamaaaW.PrintWords Go.Proofs.YtanlnfcjdjamaaaW.PrintLast Go.Proofs.YtanlnfcjdjamaaaW.PrintMore
theorem srt_take {Y : List S51} (hs : Sym.Srt ky Y) {k : Nat} {y : S51} (hy : Y[k]? = some y) : ∀ z ∈ Y.take (k + 1), ky z ≤ ky y := by
  intro z hz
  obtain ⟨hl, he⟩ := List.getElem?_eq_some_iff.1 hy
  rw [List.take_succ_eq_append_getElem hl, he] at hz
  rcases List.mem_append.1 hz with hz | hz
  · have h2 : Sym.Srt ky (Y.take k ++ Y.drop k) := by rw [List.take_append_drop]; exact hs
    rw [List.drop_eq_getElem_cons hl, he] at h2
    exact (List.pairwise_append.1 h2).2.2 z hz y (by simp)
  · simp at hz; subst hz; exact Int.le_refl _
theorem srt_drop {Y : List S51} (hs : Sym.Srt ky Y) {k : Nat} {y : S51} (hy : Y[k]? = some y) : ∀ z ∈ Y.drop k, ky y ≤ ky z := by
  intro z hz
  obtain ⟨hl, he⟩ := List.getElem?_eq_some_iff.1 hy
  rw [List.drop_eq_getElem_cons hl, he] at hz
  rcases List.mem_cons.1 hz with rfl | hz
  · exact Int.le_refl _
  · have h2 : Sym.Srt ky (Y.take k ++ Y.drop k) := by rw [List.take_append_drop]; exact hs
    rw [List.drop_eq_getElem_cons hl, he] at h2
    exact (List.pairwise_cons.1 (List.pairwise_append.1 h2).2.1).1 z hz
structure SchL (Y : List S51) (x : S51) (m i j : Nat) : Prop where
  lo : m ≤ i
  le : i ≤ j
  hi : j ≤ m + Y.length
  less : ∀ z ∈ Y.take (i - m), ky z < ky x
  rest : ∀ z ∈ Y.drop (j - m), ky x ≤ ky z
structure SchR (X : List S51) (y : S51) (a i j : Nat) : Prop where
  lo : a ≤ i
  le : i ≤ j
  hi : j ≤ a + X.length
  less : ∀ z ∈ X.take (i - a), ky z ≤ ky y
  rest : ∀ z ∈ X.drop (j - a), ky y < ky z
set_option maxHeartbeats 8000000 in
set_option maxRecDepth 100000 in
theorem symMerge_left (P Y S : List S51) (x : S51) (hY : 0 < Y.length) (hs : Sym.Srt ky Y) (A : Option Addr) (N c : Nat) (base : Nat) (ok : Nat → Prop) (w : World) (h : Kd.R k51 51 w base ok (.slice A N c) (P ++ x :: Y ++ S)) (hN : N < 1000000000) (a m b : Nat) (ha : a = P.length) (hm : m = P.length + 1) (hb : b = P.length + 1 + Y.length) :
    Calls Try.prog 60 #[.slice A N c, .int .i64 (a : Nat), .int .i64 (m : Nat), .int .i64 (b : Nat), .func (.func 43) #[] #[]] w fun e w' => e = .returned (.tuple #[]) ∧ Kd.R k51 51 w' base ok (.slice A N c) (P ++ Sym.mrg ky [x] Y ++ S) ∧ Chg w w' ok := by
  have hu51 := Try.underlying51
  have hlen := (Kd.R_reads' h).1
  simp only [List.length_append, List.length_cons] at hlen
  obtain ⟨g, rfl⟩ := R_some h (by simp; omega)
  have H0 := Aside0.mk h
  have HE := Aside0.mk (And.intro ha (And.intro hm (And.intro hb hlen)))
  have HSrt := Aside0.mk hs
  have e1 : IntKind.i64.wrap ((m : Int) - (a : Int)) = 1 := by rw [wrapS (by omega) (by omega)]; omega
  clear h ha hm hb hlen hs
  go_enter Try.func60, Try.ntmps60
  go_wp2
  clear e1
  go_loopw [10, 11] (fun v10 v11 W => ∃ (i j : Nat), v10 = .int .i64 (i : Int) ∧ v11 = .int .i64 (j : Int) ∧ Aside0 (SchL Y x m i j) ∧ Aside0 (Kd.R k51 51 W base ok (.slice (some ⟨g, 0, none⟩) N c) (P ++ x :: Y ++ S)) ∧ Aside0 (Chg w W ok)) (fun v10 v11 _ => (intOf v11).toNat - (intOf v10).toNat)
  case atStart =>
    obtain ⟨ha, hm, hb, hlen⟩ := HE.out
    exact ⟨m, b, rfl, rfl, ⟨Nat.le_refl _, by omega, by omega, fun z hz => by simp at hz, fun z hz => by rw [List.drop_of_length_le (by omega)] at hz; simp at hz⟩, H0, ⟨Chg.refl _ _⟩⟩
  case round =>
    clear H0
    obtain ⟨i, j, rfl, rfl, HI, HR, HC⟩ := hrel
    obtain ⟨ha, hm, hb, hlen⟩ := HE.out
    have hlo := HI.out.lo
    have hle := HI.out.le
    have hhi := HI.out.hi
    by_cases hlt : i < j
    · obtain ⟨h, hh⟩ : ∃ h, h = (i + j) / 2 := ⟨_, rfl⟩
      have hhi2 : ((i : Int) + (j : Int)) / 2 = (h : Int) := by omega
      have hbd : m ≤ h ∧ i ≤ h ∧ h < j ∧ h - m < Y.length := by omega
      obtain ⟨hmh, hih, hhj, hhY⟩ := hbd
      obtain ⟨y, hy⟩ : ∃ y, Y[h - m]? = some y := ⟨_, List.getElem?_eq_getElem hhY⟩
      have p0 : (P ++ x :: Y ++ S)[a]? = some x := by rw [ha]; simp
      have p1 : (P ++ x :: Y ++ S)[h]? = some y := by
        rw [List.append_assoc, List.getElem?_append_right (by omega), List.cons_append, show h - P.length = (h - m) + 1 by omega, List.getElem?_cons_succ, List.getElem?_append_left hhY, hy]
      obtain ⟨x0, x1, -, -⟩ := R_pair_at HR.out a x p0
      obtain ⟨y0, y1, -, -⟩ := R_pair_at HR.out h y p1
      have e1 : IntKind.i64.wrap ((i : Int) + (j : Int)) = (i : Int) + (j : Int) := by rw [wrapA (by omega)]; omega
      have b1 : (0 : Int) ≤ (a : Int) := by omega
      have b2 : (a : Int) < (N : Int) := by omega
      have b3 : (0 : Int) ≤ (h : Int) := by omega
      have b4 : (h : Int) < (N : Int) := by omega
      have HP := Aside0.mk (And.intro p0 p1)
      have HY := Aside0.mk hy
      have HM := Aside0.mk (And.intro hmh (And.intro hih (And.intro hhj (And.intro hlo hhi))))
      clear ha hm hb hlen hlo hle hhi hh hmh hhY hy p0 p1 hih hhj
      by_cases hk : y.f0 < x.f0
      · have hcm : cmpI y.f0 x.f0 = -1 := by unfold cmpI; rw [if_pos hk]
        have HCM := Aside0.mk hcm
        have HK := Aside0.mk hk
        clear hcm hk
        go_wp2
        go_region_held3 (fun W' => W'.cell? ⟨g, h * 2, none⟩ = some (.int .i64 y.f0) ∧ W'.cell? ⟨g, h * 2 + 1, none⟩ = some (.int .i64 y.f1) ∧ W'.cell? ⟨g, a * 2, none⟩ = some (.int .i64 x.f0) ∧ W'.cell? ⟨g, a * 2 + 1, none⟩ = some (.int .i64 x.f1)) (first | exact ⟨y0, y1, x0, x1⟩ | exact ⟨y2, y3, x2, x3⟩)
          (first | (go_at_call 43; (with_reducible refine (model_byKey.calls y.f0 y.f1 x.f0 x.f1 _ _ (byKey_val _ _ _ _)).mono ?_); rintro e w2 ⟨rfl, hb2⟩; rw [HCM.out]; have HR2 := Aside0.mk (Kd.R_below (Kd.R_drew HR.out) hb2); have HC2 := Aside0.mk (HC.out.drew.trans (Chg.of_below hb2 ok)); obtain ⟨x2, x3, -, -⟩ := R_pair_at HR2.out a x HP.out.1; obtain ⟨y2, y3, -, -⟩ := R_pair_at HR2.out h y HP.out.2; clear hb2))
        clear x0 x1 y0 y1
        go_wp2
        go_roundw
        case rel =>
          obtain ⟨hmh, hih, hhj, hlo, hhi⟩ := HM.out
          exact ⟨h + 1, j, by go_num, rfl, ⟨by omega, by omega, hhi, fun z hz => by have h1 := srt_take HSrt.out HY.out z (by rw [show h - m + 1 = h + 1 - m by omega]; exact hz); have h2 := HK.out; unfold ky at *; omega, HI.out.rest⟩, HR2, HC2⟩
        case measure => obtain ⟨hmh, hih, hhj, hlo, hhi⟩ := HM.out; simp [intOf]; omega
      · obtain ⟨cm, hcm⟩ : ∃ cm, cmpI y.f0 x.f0 = cm := ⟨_, rfl⟩
        have hcd : decide (cm < 0) = false := decide_eq_false (by rw [← hcm]; unfold cmpI; rw [if_neg hk]; split <;> omega)
        have HCM := Aside0.mk hcm
        have HK := Aside0.mk hk
        clear hcm hk
        go_wp2
        go_region_held3 (fun W' => W'.cell? ⟨g, h * 2, none⟩ = some (.int .i64 y.f0) ∧ W'.cell? ⟨g, h * 2 + 1, none⟩ = some (.int .i64 y.f1) ∧ W'.cell? ⟨g, a * 2, none⟩ = some (.int .i64 x.f0) ∧ W'.cell? ⟨g, a * 2 + 1, none⟩ = some (.int .i64 x.f1)) (first | exact ⟨y0, y1, x0, x1⟩ | exact ⟨y2, y3, x2, x3⟩)
          (first | (go_at_call 43; (with_reducible refine (model_byKey.calls y.f0 y.f1 x.f0 x.f1 _ _ (byKey_val _ _ _ _)).mono ?_); rintro e w2 ⟨rfl, hb2⟩; rw [HCM.out]; have HR2 := Aside0.mk (Kd.R_below (Kd.R_drew HR.out) hb2); have HC2 := Aside0.mk (HC.out.drew.trans (Chg.of_below hb2 ok)); obtain ⟨x2, x3, -, -⟩ := R_pair_at HR2.out a x HP.out.1; obtain ⟨y2, y3, -, -⟩ := R_pair_at HR2.out h y HP.out.2; clear hb2))
        clear x0 x1 y0 y1
        go_wp2
        go_roundw
        case rel =>
          obtain ⟨hmh, hih, hhj, hlo, hhi⟩ := HM.out
          exact ⟨i, h, rfl, rfl, ⟨hlo, hih, by omega, HI.out.less, fun z hz => by have h1 := srt_drop HSrt.out HY.out z hz; have h2 := HK.out; unfold ky at *; omega⟩, HR2, HC2⟩
        case measure => obtain ⟨hmh, hih, hhj, hlo, hhi⟩ := HM.out; simp [intOf]; omega
    · obtain rfl : i = j := by omega
      obtain ⟨r, hr⟩ : ∃ r, r = i - m := ⟨_, rfl⟩
      have HM : Aside0 (Sym.mrg ky [x] Y = Y.take r ++ x :: Y.drop r) := ⟨by
        have := mrg_one_left (Y1 := Y.take r) (Y2 := Y.drop r) (x := x) (by rw [hr]; exact HI.out.less) (by rw [hr]; exact HI.out.rest)
        rwa [List.take_append_drop] at this⟩
      have e1 : IntKind.i64.wrap ((i : Int) - 1) = ((a + r : Nat) : Int) := by rw [show (i : Int) - 1 = ((a + r : Nat) : Int) by omega]; exact wrapN (by omega)
      have hrY : r ≤ Y.length := by omega
      have h0 : Aside0 (Kd.R k51 51 wr base ok (.slice (some ⟨g, 0, none⟩) N c) (P ++ Y.take 0 ++ x :: Y.drop 0 ++ S)) := ⟨by simpa using HR.out⟩
      have HRR := Aside0.mk hr
      clear ha hm hb hlen hlo hle hhi hr HI HR hlt
      go_wp2
      go_loopw [13] (fun v13 W => ∃ (k t : Nat), v13 = .int .i64 (k : Int) ∧ Aside0 (k = a + t) ∧ t ≤ r ∧ Aside0 (Kd.R k51 51 W base ok (.slice (some ⟨g, 0, none⟩) N c) (P ++ Y.take t ++ x :: Y.drop t ++ S)) ∧ Aside0 (Chg w W ok)) (fun v13 _ => a + r - (intOf v13).toNat)
      case atStart => exact ⟨a, 0, rfl, ⟨rfl⟩, Nat.zero_le _, h0, HC⟩
      case round =>
        clear h0 HC
        obtain ⟨k, t, rfl, HK, htr, HR, HC⟩ := hrel
        obtain ⟨ha, hm, hb, hlen⟩ := HE.out
        have hk := HK.out
        by_cases hlt : k < a + r
        · have htY : t < Y.length := by omega
          obtain ⟨y, hy⟩ : ∃ y, y = Y[t] := ⟨_, rfl⟩
          have hd : Y.drop t = y :: Y.drop (t + 1) := by rw [List.drop_eq_getElem_cons htY, hy]
          have ht : Y.take (t + 1) = Y.take t ++ [y] := by rw [List.take_succ_eq_append_getElem htY, hy]
          obtain ⟨q, hq⟩ : ∃ q, q = k + 1 := ⟨_, rfl⟩
          have HR1 := HR.out
          rw [hd, show P ++ Y.take t ++ x :: y :: Y.drop (t + 1) ++ S = (P ++ Y.take t) ++ x :: [] ++ y :: (Y.drop (t + 1) ++ S) by simp] at HR1
          have hlA : k = (P ++ Y.take t).length := by simp; omega
          have hlB : q = (P ++ Y.take t).length + 1 + ([] : List S51).length := by simp; omega
          have p0 := mid_fst (P ++ Y.take t) [] (Y.drop (t + 1) ++ S) x y
          have p1 := mid_snd (P ++ Y.take t) [] (Y.drop (t + 1) ++ S) x y
          rw [← hlA] at p0
          rw [← hlB] at p1
          obtain ⟨x0, x1, x2, x3⟩ := R_pair_at HR1 k x p0
          obtain ⟨y0, y1, y2, y3⟩ := R_pair_at HR1 q y p1
          have s1 := R_pair_set HR1 k (by have := (List.getElem?_eq_some_iff.1 p0).1; exact this) y
          have s2 := R_pair_set s1.1 q (by rw [List.length_set]; exact (List.getElem?_eq_some_iff.1 p1).1) x
          have s4 := s2.1
          rw [swp_up' hlA hlB, show (P ++ Y.take t) ++ y :: [] ++ x :: (Y.drop (t + 1) ++ S) = P ++ Y.take (t + 1) ++ x :: Y.drop (t + 1) ++ S by rw [ht]; simp] at s4
          have HS2 := Aside0.mk s4
          have HC3 := Aside0.mk ((HC.out.trans s1.2).trans s2.2)
          have e1 : IntKind.i64.wrap ((k : Int) + 1) = (q : Int) := by rw [show (k : Int) + 1 = (q : Int) by omega]; exact wrapN (by omega)
          have b1 : (0 : Int) ≤ (k : Int) := by omega
          have b2 : (k : Int) < (N : Int) := by omega
          have b3 : (0 : Int) ≤ (q : Int) := by omega
          have b4 : (q : Int) < (N : Int) := by omega
          have hne : q ≠ k := by omega
          have hne2 : k ≠ q := by omega
          have HQ := Aside0.mk (And.intro hq (And.intro hk hlt))
          clear hd ht hy HR1 hlA hlB p0 p1 s1 s2 s4 HR HC hq hk ha hm hb hlen HK
          go_wp2
          go_region
          go_wp2
          go_roundw
          case rel => exact ⟨q, t + 1, by rfl, ⟨by have := HQ.out.1; have := HQ.out.2.1; omega⟩, by have := HQ.out.2; omega, ⟨Kd.R_drew HS2.out⟩, ⟨HC3.out.drew⟩⟩
          case measure => have := HQ.out.1; have := HQ.out.2.1; simp [intOf]; omega
        · have htr2 : t = r := by omega
          subst htr2
          clear ha hm hb hlen hk HK HRR
          go_wp2
          (try simp only [Exit.inBlock, Exit.then])
          refine bodyPost_ret (results_none rfl _ _ _) rfl ?_
          exact ⟨rfl, by rw [HM.out]; have := HR.out; simpa using this, HC.out⟩
set_option maxHeartbeats 8000000 in
set_option maxRecDepth 100000 in
theorem symMerge_right (P X S : List S51) (y : S51) (hX : 1 < X.length) (hs : Sym.Srt ky X) (A : Option Addr) (N c : Nat) (base : Nat) (ok : Nat → Prop) (w : World) (h : Kd.R k51 51 w base ok (.slice A N c) (P ++ X ++ y :: S)) (hN : N < 1000000000) (a m b : Nat) (ha : a = P.length) (hm : m = P.length + X.length) (hb : b = P.length + X.length + 1) :
    Calls Try.prog 60 #[.slice A N c, .int .i64 (a : Nat), .int .i64 (m : Nat), .int .i64 (b : Nat), .func (.func 43) #[] #[]] w fun e w' => e = .returned (.tuple #[]) ∧ Kd.R k51 51 w' base ok (.slice A N c) (P ++ Sym.mrg ky X [y] ++ S) ∧ Chg w w' ok := by
  have hu51 := Try.underlying51
  have hlen := (Kd.R_reads' h).1
  simp only [List.length_append, List.length_cons] at hlen
  obtain ⟨g, rfl⟩ := R_some h (by simp; omega)
  have H0 := Aside0.mk h
  have HE := Aside0.mk (And.intro ha (And.intro hm (And.intro hb hlen)))
  have HSrt := Aside0.mk hs
  obtain ⟨dx, hdx⟩ : ∃ dx, dx = X.length := ⟨_, rfl⟩
  have e1 : IntKind.i64.wrap ((m : Int) - (a : Int)) = (dx : Int) := by rw [wrapS (by omega) (by omega)]; omega
  have e2 : IntKind.i64.wrap ((b : Int) - (m : Int)) = 1 := by rw [wrapS (by omega) (by omega)]; omega
  have hd1 : ((dx : Int) == 1) = false := by simp; omega
  clear h ha hm hb hlen hs hdx
  go_enter Try.func60, Try.ntmps60
  go_wp2
  clear e1 e2 hd1
  go_loopw [14, 15] (fun v10 v11 W => ∃ (i j : Nat), v10 = .int .i64 (i : Int) ∧ v11 = .int .i64 (j : Int) ∧ Aside0 (SchR X y a i j) ∧ Aside0 (Kd.R k51 51 W base ok (.slice (some ⟨g, 0, none⟩) N c) (P ++ X ++ y :: S)) ∧ Aside0 (Chg w W ok)) (fun v10 v11 _ => (intOf v11).toNat - (intOf v10).toNat)
  case atStart =>
    obtain ⟨ha, hm, hb, hlen⟩ := HE.out
    exact ⟨a, m, rfl, rfl, ⟨Nat.le_refl _, by omega, by omega, fun z hz => by simp at hz, fun z hz => by rw [List.drop_of_length_le (by omega)] at hz; simp at hz⟩, H0, ⟨Chg.refl _ _⟩⟩
  case round =>
    clear H0
    obtain ⟨i, j, rfl, rfl, HI, HR, HC⟩ := hrel
    obtain ⟨ha, hm, hb, hlen⟩ := HE.out
    have hlo := HI.out.lo
    have hle := HI.out.le
    have hhi := HI.out.hi
    by_cases hlt : i < j
    · obtain ⟨h, hh⟩ : ∃ h, h = (i + j) / 2 := ⟨_, rfl⟩
      have hhi2 : ((i : Int) + (j : Int)) / 2 = (h : Int) := by omega
      have hbd : a ≤ h ∧ i ≤ h ∧ h < j ∧ h - a < X.length := by omega
      obtain ⟨hmh, hih, hhj, hhY⟩ := hbd
      obtain ⟨x, hx⟩ : ∃ x, X[h - a]? = some x := ⟨_, List.getElem?_eq_getElem hhY⟩
      have p0 : (P ++ X ++ y :: S)[m]? = some y := by rw [hm, List.getElem?_append_right (by simp)]; simp
      have p1 : (P ++ X ++ y :: S)[h]? = some x := by
        rw [List.append_assoc, List.getElem?_append_right (by omega), show h - P.length = h - a by omega, List.getElem?_append_left hhY, hx]
      obtain ⟨x0, x1, -, -⟩ := R_pair_at HR.out m y p0
      obtain ⟨y0, y1, -, -⟩ := R_pair_at HR.out h x p1
      have e1 : IntKind.i64.wrap ((i : Int) + (j : Int)) = (i : Int) + (j : Int) := by rw [wrapA (by omega)]; omega
      have b1 : (0 : Int) ≤ (m : Int) := by omega
      have b2 : (m : Int) < (N : Int) := by omega
      have b3 : (0 : Int) ≤ (h : Int) := by omega
      have b4 : (h : Int) < (N : Int) := by omega
      have HP := Aside0.mk (And.intro p0 p1)
      have HY := Aside0.mk hx
      have HM := Aside0.mk (And.intro hmh (And.intro hih (And.intro hhj (And.intro hlo hhi))))
      clear ha hm hb hlen hlo hle hhi hh hmh hhY hx p0 p1 hih hhj
      by_cases hk : y.f0 < x.f0
      · have hcm : cmpI y.f0 x.f0 = -1 := by unfold cmpI; rw [if_pos hk]
        have HCM := Aside0.mk hcm
        have HK := Aside0.mk hk
        clear hcm hk
        go_wp2
        go_region_held3 (fun W' => W'.cell? ⟨g, h * 2, none⟩ = some (.int .i64 x.f0) ∧ W'.cell? ⟨g, h * 2 + 1, none⟩ = some (.int .i64 x.f1) ∧ W'.cell? ⟨g, m * 2, none⟩ = some (.int .i64 y.f0) ∧ W'.cell? ⟨g, m * 2 + 1, none⟩ = some (.int .i64 y.f1)) (first | exact ⟨y0, y1, x0, x1⟩ | exact ⟨y2, y3, x2, x3⟩)
          (first | (go_at_call 43; (with_reducible refine (model_byKey.calls y.f0 y.f1 x.f0 x.f1 _ _ (byKey_val _ _ _ _)).mono ?_); rintro e w2 ⟨rfl, hb2⟩; rw [HCM.out]; have HR2 := Aside0.mk (Kd.R_below (Kd.R_drew HR.out) hb2); have HC2 := Aside0.mk (HC.out.drew.trans (Chg.of_below hb2 ok)); obtain ⟨x2, x3, -, -⟩ := R_pair_at HR2.out m y HP.out.1; obtain ⟨y2, y3, -, -⟩ := R_pair_at HR2.out h x HP.out.2; clear hb2))
        clear x0 x1 y0 y1
        go_wp2
        go_roundw
        case rel =>
          obtain ⟨hmh, hih, hhj, hlo, hhi⟩ := HM.out
          exact ⟨i, h, rfl, rfl, ⟨hlo, hih, by omega, HI.out.less, fun z hz => by have h1 := srt_drop HSrt.out HY.out z hz; have h2 := HK.out; unfold ky at *; omega⟩, HR2, HC2⟩
        case measure => obtain ⟨hmh, hih, hhj, hlo, hhi⟩ := HM.out; simp [intOf]; omega
      · obtain ⟨cm, hcm⟩ : ∃ cm, cmpI y.f0 x.f0 = cm := ⟨_, rfl⟩
        have hcd : decide (cm < 0) = false := decide_eq_false (by rw [← hcm]; unfold cmpI; rw [if_neg hk]; split <;> omega)
        have HCM := Aside0.mk hcm
        have HK := Aside0.mk hk
        clear hcm hk
        go_wp2
        go_region_held3 (fun W' => W'.cell? ⟨g, h * 2, none⟩ = some (.int .i64 x.f0) ∧ W'.cell? ⟨g, h * 2 + 1, none⟩ = some (.int .i64 x.f1) ∧ W'.cell? ⟨g, m * 2, none⟩ = some (.int .i64 y.f0) ∧ W'.cell? ⟨g, m * 2 + 1, none⟩ = some (.int .i64 y.f1)) (first | exact ⟨y0, y1, x0, x1⟩ | exact ⟨y2, y3, x2, x3⟩)
          (first | (go_at_call 43; (with_reducible refine (model_byKey.calls y.f0 y.f1 x.f0 x.f1 _ _ (byKey_val _ _ _ _)).mono ?_); rintro e w2 ⟨rfl, hb2⟩; rw [HCM.out]; have HR2 := Aside0.mk (Kd.R_below (Kd.R_drew HR.out) hb2); have HC2 := Aside0.mk (HC.out.drew.trans (Chg.of_below hb2 ok)); obtain ⟨x2, x3, -, -⟩ := R_pair_at HR2.out m y HP.out.1; obtain ⟨y2, y3, -, -⟩ := R_pair_at HR2.out h x HP.out.2; clear hb2))
        clear x0 x1 y0 y1
        go_wp2
        go_roundw
        case rel =>
          obtain ⟨hmh, hih, hhj, hlo, hhi⟩ := HM.out
          exact ⟨h + 1, j, by go_num, rfl, ⟨by omega, by omega, hhi, fun z hz => by have h1 := srt_take HSrt.out HY.out z (by rw [show h - a + 1 = h + 1 - a by omega]; exact hz); have h2 := HK.out; unfold ky at *; omega, HI.out.rest⟩, HR2, HC2⟩
        case measure => obtain ⟨hmh, hih, hhj, hlo, hhi⟩ := HM.out; simp [intOf]; omega
    · obtain rfl : i = j := by omega
      obtain ⟨r, hr⟩ : ∃ r, r = i - a := ⟨_, rfl⟩
      have HM : Aside0 (Sym.mrg ky X [y] = X.take r ++ y :: X.drop r) := ⟨by
        have := mrg_one_right (X1 := X.take r) (X2 := X.drop r) (y := y) (by rw [hr]; exact HI.out.less) (by rw [hr]; exact HI.out.rest)
        rwa [List.take_append_drop] at this⟩
      have hrX : r ≤ X.length := by omega
      have h0 : Aside0 (Kd.R k51 51 wr base ok (.slice (some ⟨g, 0, none⟩) N c) (P ++ X.take X.length ++ y :: X.drop X.length ++ S)) := ⟨by simpa using HR.out⟩
      have HRR := Aside0.mk (And.intro hr hlo)
      clear ha hm hb hlen hlo hle hhi hr HI HR hlt
      go_wp2
      go_loopw [17] (fun v13 W => ∃ (k t : Nat), v13 = .int .i64 (k : Int) ∧ Aside0 (k = a + t) ∧ Aside0 (r ≤ t ∧ t ≤ X.length) ∧ Aside0 (Kd.R k51 51 W base ok (.slice (some ⟨g, 0, none⟩) N c) (P ++ X.take t ++ y :: X.drop t ++ S)) ∧ Aside0 (Chg w W ok)) (fun v13 _ => (intOf v13).toNat)
      case atStart => exact ⟨m, X.length, rfl, ⟨by obtain ⟨ha, hm, hb, hlen⟩ := HE.out; omega⟩, ⟨hrX, Nat.le_refl _⟩, h0, HC⟩
      case round =>
        clear h0 HC
        obtain ⟨k, t, rfl, HK, HT, HR, HC⟩ := hrel
        obtain ⟨ha, hm, hb, hlen⟩ := HE.out
        obtain ⟨hr, hlo⟩ := HRR.out
        obtain ⟨hrt, htX⟩ := HT.out
        have hk := HK.out
        by_cases hlt : i < k
        · obtain ⟨t', rfl⟩ : ∃ t', t = t' + 1 := ⟨t - 1, by omega⟩
          have htl : t' < X.length := by omega
          obtain ⟨x, hx⟩ : ∃ x, x = X[t'] := ⟨_, rfl⟩
          have hd : X.drop t' = x :: X.drop (t' + 1) := by rw [List.drop_eq_getElem_cons htl, hx]
          have ht : X.take (t' + 1) = X.take t' ++ [x] := by rw [List.take_succ_eq_append_getElem htl, hx]
          obtain ⟨q, hq⟩ : ∃ q, q = a + t' := ⟨_, rfl⟩
          have HR1 := HR.out
          rw [ht, show P ++ (X.take t' ++ [x]) ++ y :: X.drop (t' + 1) ++ S = (P ++ X.take t') ++ x :: [] ++ y :: (X.drop (t' + 1) ++ S) by simp] at HR1
          have hlA : q = (P ++ X.take t').length := by simp; omega
          have hlB : k = (P ++ X.take t').length + 1 + ([] : List S51).length := by simp; omega
          have p0 := mid_fst (P ++ X.take t') [] (X.drop (t' + 1) ++ S) x y
          have p1 := mid_snd (P ++ X.take t') [] (X.drop (t' + 1) ++ S) x y
          rw [← hlA] at p0
          rw [← hlB] at p1
          obtain ⟨x0, x1, x2, x3⟩ := R_pair_at HR1 q x p0
          obtain ⟨y0, y1, y2, y3⟩ := R_pair_at HR1 k y p1
          have s1 := R_pair_set HR1 k (by have := (List.getElem?_eq_some_iff.1 p1).1; exact this) x
          have s2 := R_pair_set s1.1 q (by rw [List.length_set]; exact (List.getElem?_eq_some_iff.1 p0).1) y
          have s4 := s2.1
          rw [swp_down' hlA hlB, show (P ++ X.take t') ++ y :: [] ++ x :: (X.drop (t' + 1) ++ S) = P ++ X.take t' ++ y :: X.drop t' ++ S by rw [hd]; simp] at s4
          have HS2 := Aside0.mk s4
          have HC3 := Aside0.mk ((HC.out.trans s1.2).trans s2.2)
          have e1 : IntKind.i64.wrap ((k : Int) - 1) = (q : Int) := by rw [show (k : Int) - 1 = (q : Int) by omega]; exact wrapN (by omega)
          have b1 : (0 : Int) ≤ (k : Int) := by omega
          have b2 : (k : Int) < (N : Int) := by omega
          have b3 : (0 : Int) ≤ (q : Int) := by omega
          have b4 : (q : Int) < (N : Int) := by omega
          have hne : q ≠ k := by omega
          have hne2 : k ≠ q := by omega
          have HQ := Aside0.mk (And.intro hq (And.intro hk (And.intro hlt (And.intro hr (And.intro htX hlo)))))
          clear hd ht hx HR1 hlA hlB p0 p1 s1 s2 s4 HR HC hq hk ha hm hb hlen HK hr hlo hrt htX
          go_wp2
          go_region
          go_wp2
          go_roundw
          case rel => exact ⟨q, t', by rfl, ⟨HQ.out.1⟩, ⟨by obtain ⟨z1, z2, z3, z4, z5, z6⟩ := HQ.out; omega, by obtain ⟨z1, z2, z3, z4, z5, z6⟩ := HQ.out; omega⟩, ⟨Kd.R_drew HS2.out⟩, ⟨HC3.out.drew⟩⟩
          case measure => obtain ⟨z1, z2, z3, z4, z5, z6⟩ := HQ.out; simp [intOf]; omega
        · have htr2 : t = r := by omega
          subst htr2
          clear ha hm hb hlen hk HK HRR hr hlo hrt htX HT
          go_wp2
          (try simp only [Exit.inBlock, Exit.then])
          refine bodyPost_ret (results_none rfl _ _ _) rfl ?_
          exact ⟨rfl, by rw [HM.out]; have := HR.out; simpa using this, HC.out⟩
end Go.Proofs.Ytanlnfcjdjamaaa.P
