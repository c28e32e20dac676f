/- P.modelMemory_holds, part 23 of 37: the contracts of the Go functions that the law calls, its own walk, and its plain law, for every input that the statement speaks of. -/
import Derived.Test.YtanlnfcjdjamaaaMMe21
import Derived.Test.YtanlnfcjdjamaaaMMe2
set_option linter.unusedVariables false
set_option linter.unusedSimpArgs false
/- E15 -/
namespace Go.Proofs.Ytanlnfcjdjamaaa.P
open Go.RowKit Go.Proofs.YtanlnfcjdjamaaaW.PrintWords Go.Proofs.YtanlnfcjdjamaaaW.PrintLast Go.Proofs.YtanlnfcjdjamaaaW.PrintMore
structure SymI (X Y : List S51) (a m p lo hi s r : Nat) : Prop where
  wl : lo ≤ s
  le : s ≤ r
  wr : r ≤ hi
  left : s = lo ∨ ∃ x y, X[s - 1 - a]? = some x ∧ Y[p - (s - 1) - m]? = some y ∧ ky x ≤ ky y
  right : r = hi ∨ ∃ x y, X[r - a]? = some x ∧ Y[p - r - m]? = some y ∧ ky y < ky x
structure SymN (a m b mid nn p lo hi d e : Nat) : Prop where
  hm : m = a + d
  hb : b = m + e
  hmid : mid = (a + b) / 2
  hnn : nn = mid + m
  hp : p = nn - 1
  hd : 1 < d
  he : 1 < e
  hc : (mid < m ∧ lo = nn - b ∧ hi = mid) ∨ (m ≤ mid ∧ lo = a ∧ hi = m)
theorem sym_range {a m b mid nn p lo hi d e c : Nat} (h : SymN a m b mid nn p lo hi d e) (h1 : lo ≤ c) (h2 : c < hi) : a ≤ c ∧ c < m ∧ m ≤ p - c ∧ p - c < b ∧ c ≤ p := by
  obtain ⟨h3, h4, h5, h6, h7, h8, h9, h10⟩ := h
  omega
theorem sym_split {X Y : List S51} {a m b mid nn p lo hi s : Nat} (hn : SymN a m b mid nn p lo hi X.length Y.length) (h : SymI X Y a m p lo hi s s) (hX : Sym.Srt ky X) (hY : Sym.Srt ky Y) :
    Sym.mrg ky X Y = Sym.mrg ky (X.take (s - a)) (Y.take (nn - s - m)) ++ Sym.mrg ky (X.drop (s - a)) (Y.drop (nn - s - m)) := by
  have := Sym.mrg_split ky _ (X.take (s - a)) (Y.take (nn - s - m)) (X.drop (s - a)) (Y.drop (nn - s - m)) rfl ?_ ?_
  · rwa [List.take_append_drop, List.take_append_drop] at this
  · obtain ⟨h3, h4, h5, h6, h7, h8, h9, h10⟩ := hn
    have e1 := h.wl
    have e2 := h.wr
    rcases h.right with h11 | ⟨x, y, hx, hy, hlt⟩
    · rcases h10 with ⟨h12, h13, h14⟩ | ⟨h12, h13, h14⟩
      · intro y hy
        rw [show nn - s - m = 0 by omega] at hy
        simp at hy
      · intro y _ x hx
        rw [List.drop_of_length_le (by omega)] at hx
        simp at hx
    · intro y' hy' x' hx'
      have k1 := srt_drop hX hx x' hx'
      have hpp := (List.getElem?_eq_some_iff.1 hy).1
      have k2 := srt_take hY hy y' (by
        have : nn - s - m ≤ p - s - m + 1 := by omega
        exact List.mem_of_mem_take (i := nn - s - m) (by rw [List.take_take, Nat.min_eq_left this]; exact hy'))
      omega
  · obtain ⟨h3, h4, h5, h6, h7, h8, h9, h10⟩ := hn
    have e1 := h.wl
    have e2 := h.wr
    rcases h.left with h11 | ⟨x, y, hx, hy, hlt⟩
    · rcases h10 with ⟨h12, h13, h14⟩ | ⟨h12, h13, h14⟩
      · intro x _ y hy
        rw [List.drop_of_length_le (by omega)] at hy
        simp at hy
      · intro x hx
        rw [show s - a = 0 by omega] at hx
        simp at hx
    · intro x' hx' y' hy'
      by_cases h0 : s - a = 0
      · rw [h0] at hx'; simp at hx'
      · have k1 := srt_take hX hx x' (by rw [show s - 1 - a + 1 = s - a by omega]; exact hx')
        by_cases hs0 : s = 0
        · omega
        · have k2 := srt_drop hY hy y' (by rw [show p - (s - 1) - m = nn - s - m by omega]; exact hy')
          omega
def SymP (P X Y S : List S51) : Prop := ∀ (A : Option Addr) (N c : Nat) (base : Nat) (ok : Nat → Prop) (w : World), Kd.R k51 51 w base ok (.slice A N c) (P ++ X ++ Y ++ S) → N < 1000000000 → ∀ (a m b : Nat), a = P.length → m = P.length + X.length → b = P.length + X.length + Y.length →
    Calls Try.prog 60 #[.slice A N c, .int .i64 (a : Nat), .int .i64 (m : Nat), .int .i64 (b : Nat), .func (.func 43) #[] #[]] w fun e w' => e = .returned (.tuple #[]) ∧ Kd.R k51 51 w' base ok (.slice A N c) (P ++ Sym.mrg ky X Y ++ S) ∧ Chg w w' ok
set_option maxHeartbeats 40000000 in
set_option maxRecDepth 100000 in
theorem symMerge_step (n : Nat) (IH : ∀ (P X Y S : List S51), X.length + Y.length ≤ n → 0 < X.length → 0 < Y.length → Sym.Srt ky X → Sym.Srt ky Y → SymP P X Y S) (P X Y S : List S51) (hn : X.length + Y.length ≤ n + 1) (hX : 0 < X.length) (hY : 0 < Y.length) (hsX : Sym.Srt ky X) (hsY : Sym.Srt ky Y) : SymP P X Y S := by
    by_cases hx1 : X.length = 1
    · obtain ⟨x, rfl⟩ := List.length_eq_one_iff.1 hx1
      intro A N c base ok w h hN a m b ha hm hb
      exact symMerge_left P Y S x hY hsY A N c base ok w (by simpa using h) hN a m b ha hm hb
    by_cases hy1 : Y.length = 1
    · obtain ⟨y, rfl⟩ := List.length_eq_one_iff.1 hy1
      intro A N c base ok w h hN a m b ha hm hb
      exact symMerge_right P X S y (by omega) hsX A N c base ok w (by simpa using h) hN a m b ha hm hb
    intro A N c base ok w h hN a m b ha hm hb
    have hu51 := Try.underlying51
    have hlen := (Kd.R_reads' h).1
    simp only [List.length_append] at hlen
    obtain ⟨g, rfl⟩ := R_some h (by simp; omega)
    obtain ⟨mid, hmid⟩ : ∃ mid, mid = (a + b) / 2 := ⟨_, rfl⟩
    obtain ⟨nn, hnn⟩ : ∃ nn, nn = mid + m := ⟨_, rfl⟩
    obtain ⟨p, hp⟩ : ∃ p, p = nn - 1 := ⟨_, rfl⟩
    obtain ⟨lo, hlo⟩ : ∃ lo, lo = if mid < m then nn - b else a := ⟨_, rfl⟩
    obtain ⟨hi, hhi⟩ : ∃ hi, hi = if mid < m then mid else m := ⟨_, rfl⟩
    obtain ⟨dx, hdx⟩ : ∃ dx, dx = X.length := ⟨_, rfl⟩
    obtain ⟨dy, hdy⟩ : ∃ dy, dy = Y.length := ⟨_, rfl⟩
    have hSN : SymN a m b mid nn p lo hi X.length Y.length := ⟨by omega, by omega, hmid, hnn, hp, by omega, by omega, by
      by_cases hc : mid < m
      · rw [if_pos hc] at hlo hhi; exact .inl ⟨hc, hlo, hhi⟩
      · rw [if_neg hc] at hlo hhi; exact .inr ⟨by omega, hlo, hhi⟩⟩
    have hb9 : b ≤ N := by omega
    have hne : m < N ∧ mid < N ∧ a ≤ mid ∧ mid < b ∧ lo ≤ hi ∧ a < m ∧ m < b := by obtain ⟨h3, h4, h5, h6, h7, h8, h9, h10⟩ := hSN; omega
    obtain ⟨hm9, hmid9, hamid, hmidb, hlohi, ham, hmb⟩ := hne
    have e1 : IntKind.i64.wrap ((m : Int) - (a : Int)) = (dx : Int) := by rw [wrapS (by omega) (by omega)]; omega
    have e2 : IntKind.i64.wrap ((b : Int) - (m : Int)) = (dy : Int) := by rw [wrapS (by omega) (by omega)]; omega
    have d1 : ((dx : Int) == 1) = false := by simp; omega
    have d2 : ((dy : Int) == 1) = false := by simp; omega
    have e3 : IntKind.i64.wrap ((a : Int) + (b : Int)) = (a : Int) + (b : Int) := by rw [wrapA (by omega)]; omega
    have e4 : ((a : Int) + (b : Int)) / 2 = (mid : Int) := by omega
    have e5 : IntKind.i64.wrap ((mid : Int) + (m : Int)) = (nn : Int) := by rw [wrapA (by omega)]; omega
    have e6 : IntKind.i64.wrap ((nn : Int) - 1) = (p : Int) := by rw [show (nn : Int) - 1 = (p : Int) by omega]; exact wrapN (by omega)
    have IHA := Aside0.mk IH
    clear IH
    have H0 := Aside0.mk h
    have HSN := Aside0.mk hSN
    have HE := Aside0.mk (And.intro ha (And.intro hm (And.intro hb hlen)))
    have HX := Aside0.mk hsX
    have HY := Aside0.mk hsY
    have HN := Aside0.mk hn
    clear h ha hm hb hlen hmid hnn hp hdx hdy hSN hX hY hsX hsY hn hx1 hy1
    by_cases hcase : mid < m
    · rw [if_pos hcase] at hlo hhi
      have e7 : IntKind.i64.wrap ((nn : Int) - (b : Int)) = (lo : Int) := by have := HSN.out.hnn; rw [wrapS (by have := HSN.out.hmid; have := HSN.out.hm; have := HSN.out.hb; omega) (by omega)]; omega
      have HCASE := Aside0.mk hcase
      have hhi := hhi.symm
      subst hhi
      clear hlo
      go_enter Try.func60, Try.ntmps60
      go_wp2
      clear e1 e2 e3 e4 e5 e6 d1 d2 e7
      go_loopw [20, 21] (fun v10 v11 W => ∃ (s r : Nat), v10 = .int .i64 (s : Int) ∧ v11 = .int .i64 (r : Int) ∧ Aside0 (SymI X Y a m p lo mid s r) ∧ Aside0 (Kd.R k51 51 W base ok (.slice (some ⟨g, 0, none⟩) N c) (P ++ X ++ Y ++ S)) ∧ Aside0 (Chg w W ok)) (fun v10 v11 _ => (intOf v11).toNat - (intOf v10).toNat)
      case atStart => exact ⟨lo, mid, rfl, rfl, ⟨Nat.le_refl _, hlohi, Nat.le_refl _, .inl rfl, .inl rfl⟩, H0, ⟨Chg.refl _ _⟩⟩
      case round =>
        clear H0
        obtain ⟨s, r, rfl, rfl, HI, HR, HC⟩ := hrel
        have hlo := HI.out.wl
        have hle := HI.out.le
        have hhi := HI.out.wr
        obtain ⟨ha, hm, hb, hlen⟩ := HE.out
        by_cases hlt : s < r
        · obtain ⟨q, hq⟩ : ∃ q, q = (s + r) / 2 := ⟨_, rfl⟩
          have hhi2 : ((s : Int) + (r : Int)) / 2 = (q : Int) := by omega
          have hqb : lo ≤ q ∧ q < mid := by omega
          obtain ⟨r1, r2, r3, r4, r5⟩ := sym_range HSN.out hqb.1 hqb.2
          obtain ⟨pc, hpc⟩ : ∃ pc, pc = p - q := ⟨_, rfl⟩
          have hqX : q - a < X.length := by omega
          have hpY : pc - m < Y.length := by omega
          obtain ⟨x, hx⟩ : ∃ x, X[q - a]? = some x := ⟨_, List.getElem?_eq_getElem hqX⟩
          obtain ⟨y, hy⟩ : ∃ y, Y[pc - m]? = some y := ⟨_, List.getElem?_eq_getElem hpY⟩
          have p0 : (P ++ X ++ Y ++ S)[q]? = some x := by
            rw [List.append_assoc, List.append_assoc, List.getElem?_append_right (by omega), show q - P.length = q - a by omega, List.getElem?_append_left hqX, hx]
          have p1 : (P ++ X ++ Y ++ S)[pc]? = some y := by
            rw [List.append_assoc, List.getElem?_append_right (by simp; omega), show pc - (P ++ X).length = pc - m by simp; omega, List.getElem?_append_left hpY, hy]
          obtain ⟨x0, x1, -, -⟩ := R_pair_at HR.out q x p0
          obtain ⟨y0, y1, -, -⟩ := R_pair_at HR.out pc y p1
          have e1 : IntKind.i64.wrap ((s : Int) + (r : Int)) = (s : Int) + (r : Int) := by rw [wrapA (by omega)]; omega
          have e2 : IntKind.i64.wrap ((p : Int) - (q : Int)) = (pc : Int) := by rw [wrapS (by omega) (by have := HSN.out.hp; have := HSN.out.hnn; omega)]; omega
          have b1 : (0 : Int) ≤ (q : Int) := by omega
          have b2 : (q : Int) < (N : Int) := by omega
          have b3 : (0 : Int) ≤ (pc : Int) := by omega
          have b4 : (pc : Int) < (N : Int) := by omega
          have HP := Aside0.mk (And.intro p0 p1)
          have HXY := Aside0.mk (And.intro hx (show Y[p - q - m]? = some y by rw [← hpc]; exact hy))
          have HM := Aside0.mk (And.intro hqb (And.intro hq (And.intro hlo (And.intro hle hhi))))
          clear ha hm hb hlen hlo hle hhi hq hpc hqX hpY hx hy p0 p1 r1 r2 r3 r4 r5 hqb
          by_cases hk : y.f0 < x.f0
          · have hcm : cmpI y.f0 x.f0 = -1 := by unfold cmpI; rw [if_pos hk]
            have HCM := Aside0.mk hcm
            have HK := Aside0.mk hk
            clear hcm hk
            go_wp2
            go_region_held3 (fun W' => W'.cell? ⟨g, pc * 2, none⟩ = some (.int .i64 y.f0) ∧ W'.cell? ⟨g, pc * 2 + 1, none⟩ = some (.int .i64 y.f1) ∧ W'.cell? ⟨g, q * 2, none⟩ = some (.int .i64 x.f0) ∧ W'.cell? ⟨g, q * 2 + 1, none⟩ = some (.int .i64 x.f1)) (first | exact ⟨y0, y1, x0, x1⟩ | exact ⟨y2, y3, x2, x3⟩)
              (first | (go_at_call 43; (with_reducible refine (model_byKey.calls y.f0 y.f1 x.f0 x.f1 _ _ (byKey_val _ _ _ _)).mono ?_); rintro e w2 ⟨rfl, hb2⟩; rw [HCM.out]; have HR2 := Aside0.mk (Kd.R_below (Kd.R_drew HR.out) hb2); have HC2 := Aside0.mk (HC.out.drew.trans (Chg.of_below hb2 ok)); obtain ⟨x2, x3, -, -⟩ := R_pair_at HR2.out q x HP.out.1; obtain ⟨y2, y3, -, -⟩ := R_pair_at HR2.out pc y HP.out.2; clear hb2))
            clear x0 x1 y0 y1
            go_wp2
            go_roundw
            case rel =>
              obtain ⟨hqb, hq, hlo, hle, hhi⟩ := HM.out
              exact ⟨s, q, rfl, rfl, ⟨hlo, by omega, by omega, HI.out.left, .inr ⟨x, y, HXY.out.1, HXY.out.2, HK.out⟩⟩, HR2, HC2⟩
            case measure => obtain ⟨hqb, hq, hlo, hle, hhi⟩ := HM.out; simp [intOf]; omega
          · obtain ⟨cm, hcm⟩ : ∃ cm, cmpI y.f0 x.f0 = cm := ⟨_, rfl⟩
            have hcd : decide (cm < 0) = false := decide_eq_false (by rw [← hcm]; unfold cmpI; rw [if_neg hk]; split <;> omega)
            have HCM := Aside0.mk hcm
            have HK := Aside0.mk hk
            clear hcm hk
            go_wp2
            go_region_held3 (fun W' => W'.cell? ⟨g, pc * 2, none⟩ = some (.int .i64 y.f0) ∧ W'.cell? ⟨g, pc * 2 + 1, none⟩ = some (.int .i64 y.f1) ∧ W'.cell? ⟨g, q * 2, none⟩ = some (.int .i64 x.f0) ∧ W'.cell? ⟨g, q * 2 + 1, none⟩ = some (.int .i64 x.f1)) (first | exact ⟨y0, y1, x0, x1⟩ | exact ⟨y2, y3, x2, x3⟩)
              (first | (go_at_call 43; (with_reducible refine (model_byKey.calls y.f0 y.f1 x.f0 x.f1 _ _ (byKey_val _ _ _ _)).mono ?_); rintro e w2 ⟨rfl, hb2⟩; rw [HCM.out]; have HR2 := Aside0.mk (Kd.R_below (Kd.R_drew HR.out) hb2); have HC2 := Aside0.mk (HC.out.drew.trans (Chg.of_below hb2 ok)); obtain ⟨x2, x3, -, -⟩ := R_pair_at HR2.out q x HP.out.1; obtain ⟨y2, y3, -, -⟩ := R_pair_at HR2.out pc y HP.out.2; clear hb2))
            clear x0 x1 y0 y1
            go_wp2
            go_roundw
            case rel =>
              obtain ⟨hqb, hq, hlo, hle, hhi⟩ := HM.out
              exact ⟨q + 1, r, by go_num, rfl, ⟨by omega, by omega, hhi, .inr ⟨x, y, by rw [Nat.add_sub_cancel]; exact HXY.out.1, by rw [Nat.add_sub_cancel]; exact HXY.out.2, by have := HK.out; unfold ky; omega⟩, HI.out.right⟩, HR2, HC2⟩
            case measure => obtain ⟨hqb, hq, hlo, hle, hhi⟩ := HM.out; simp [intOf]; omega
        · obtain rfl : s = r := by omega
          obtain ⟨en, hen⟩ : ∃ en, en = nn - s := ⟨_, rfl⟩
          obtain ⟨X1, hX1⟩ : ∃ X1, X1 = X.take (s - a) := ⟨_, rfl⟩
          obtain ⟨X2, hX2⟩ : ∃ X2, X2 = X.drop (s - a) := ⟨_, rfl⟩
          obtain ⟨Y1, hY1⟩ : ∃ Y1, Y1 = Y.take (nn - s - m) := ⟨_, rfl⟩
          obtain ⟨Y2, hY2⟩ : ∃ Y2, Y2 = Y.drop (nn - s - m) := ⟨_, rfl⟩
          have hmr := sym_split HSN.out HI.out HX.out HY.out
          rw [← hX1, ← hX2, ← hY1, ← hY2] at hmr
          have hXX : X = X1 ++ X2 := by rw [hX1, hX2, List.take_append_drop]
          have hYY : Y = Y1 ++ Y2 := by rw [hY1, hY2, List.take_append_drop]
          have sX1 : Sym.Srt ky X1 := (List.pairwise_append.1 (hXX ▸ HX.out)).1
          have sX2 : Sym.Srt ky X2 := (List.pairwise_append.1 (hXX ▸ HX.out)).2.1
          have sY1 : Sym.Srt ky Y1 := (List.pairwise_append.1 (hYY ▸ HY.out)).1
          have sY2 : Sym.Srt ky Y2 := (List.pairwise_append.1 (hYY ▸ HY.out)).2.1
          have lX : X.length = X1.length + X2.length := by rw [hXX, List.length_append]
          have lY : Y.length = Y1.length + Y2.length := by rw [hYY, List.length_append]
          have hN2 := HSN.out
          have hnum : s = a + X1.length ∧ m = s + X2.length ∧ en = m + Y1.length ∧ b = en + Y2.length ∧ mid = s + Y1.length ∧ X1.length ≤ X.length ∧ Y1.length ≤ Y.length ∧ s ≤ nn := by
            obtain ⟨h3, h4, h5, h6, h7, h8, h9, h10⟩ := hN2
            rw [hX1, hX2, hY1, hY2]
            simp only [List.length_take, List.length_drop]
            omega
          obtain ⟨k1, k2, k3, k4, k5, k6, k7, k8⟩ := hnum
          have hamd : a < mid := by have := hN2.hmid; have := hN2.hm; have := hN2.hb; have := hN2.hd; have := hN2.he; omega
          have e1 : IntKind.i64.wrap ((nn : Int) - (s : Int)) = (en : Int) := by rw [wrapS (by omega) (by omega)]; omega
          have HR0 : Aside0 (Kd.R k51 51 wr base ok (.slice (some ⟨g, 0, none⟩) N c) (P ++ X1 ++ X2 ++ Y1 ++ (Y2 ++ S))) := ⟨by have := HR.out; rw [hXX, hYY] at this; simpa using this⟩
          have HFIN : Aside0 (P ++ Sym.mrg ky X1 Y1 ++ Sym.mrg ky X2 Y2 ++ S = P ++ Sym.mrg ky X Y ++ S) := ⟨by rw [hmr]; simp⟩
          have HROT : Aside0 (s < m → m < en → ∀ W, Kd.R k51 51 W base ok (.slice (some ⟨g, 0, none⟩) N c) (P ++ X1 ++ X2 ++ Y1 ++ (Y2 ++ S)) → Calls Try.prog 63 #[.slice (some ⟨g, 0, none⟩) N c, .int .i64 (s : Nat), .int .i64 (m : Nat), .int .i64 (en : Nat), .func (.func 43) #[] #[]] W fun e w' => e = .returned (.tuple #[]) ∧ Kd.R k51 51 w' base ok (.slice (some ⟨g, 0, none⟩) N c) ((P ++ X1) ++ Y1 ++ X2 ++ (Y2 ++ S)) ∧ Chg W w' ok) :=
            ⟨fun h1 h2 W hW => rotate_calls (P ++ X1) X2 Y1 (Y2 ++ S) (by omega) (by omega) _ N c _ base ok W hW hN s m en (by simp; omega) (by simp; omega) (by simp; omega)⟩
          have HLFT : Aside0 (a < s → s < mid → ∀ W, Kd.R k51 51 W base ok (.slice (some ⟨g, 0, none⟩) N c) ((P ++ X1) ++ Y1 ++ X2 ++ (Y2 ++ S)) → Calls Try.prog 60 #[.slice (some ⟨g, 0, none⟩) N c, .int .i64 (a : Nat), .int .i64 (s : Nat), .int .i64 (mid : Nat), .func (.func 43) #[] #[]] W fun e w' => e = .returned (.tuple #[]) ∧ Kd.R k51 51 w' base ok (.slice (some ⟨g, 0, none⟩) N c) (P ++ Sym.mrg ky X1 Y1 ++ (X2 ++ (Y2 ++ S))) ∧ Chg W w' ok) :=
            ⟨fun h1 h2 W hW => IHA.out P X1 Y1 (X2 ++ (Y2 ++ S)) (by have := HN.out; have := hN2.hd; have := hN2.he; omega) (by omega) (by omega) sX1 sY1 _ N c base ok W (by simpa using hW) hN a s mid (by omega) (by omega) (by omega)⟩
          have HRGT : Aside0 (mid < en → en < b → ∀ W, Kd.R k51 51 W base ok (.slice (some ⟨g, 0, none⟩) N c) (P ++ Sym.mrg ky X1 Y1 ++ (X2 ++ (Y2 ++ S))) → Calls Try.prog 60 #[.slice (some ⟨g, 0, none⟩) N c, .int .i64 (mid : Nat), .int .i64 (en : Nat), .int .i64 (b : Nat), .func (.func 43) #[] #[]] W fun e w' => e = .returned (.tuple #[]) ∧ Kd.R k51 51 w' base ok (.slice (some ⟨g, 0, none⟩) N c) (P ++ Sym.mrg ky X Y ++ S) ∧ Chg W w' ok) :=
            ⟨fun h1 h2 W hW => by rw [← HFIN.out]; have hl1 := Sym.mrg_length ky _ X1 Y1 rfl; exact IHA.out (P ++ Sym.mrg ky X1 Y1) X2 Y2 S (by have := HN.out; have := hN2.hd; have := hN2.he; omega) (by omega) (by omega) sX2 sY2 _ N c base ok W (by simpa using hW) hN mid en b (by simp; omega) (by simp; omega) (by simp; omega)⟩
          have Q1 : Aside0 (¬ (s < m ∧ m < en) → (P ++ X1) ++ Y1 ++ X2 ++ (Y2 ++ S) = P ++ X1 ++ X2 ++ Y1 ++ (Y2 ++ S)) := ⟨by
            intro hc
            have : X2 = [] ∨ Y1 = [] := by
              by_cases h0 : X2.length = 0
              · exact .inl (List.eq_nil_of_length_eq_zero h0)
              · exact .inr (List.eq_nil_of_length_eq_zero (by omega))
            rcases this with h0 | h0 <;> rw [h0] <;> simp⟩
          have Q2 : Aside0 (¬ (a < s ∧ s < mid) → P ++ Sym.mrg ky X1 Y1 ++ (X2 ++ (Y2 ++ S)) = (P ++ X1) ++ Y1 ++ X2 ++ (Y2 ++ S)) := ⟨by
            intro hc
            have : X1 = [] ∨ Y1 = [] := by
              by_cases h0 : X1.length = 0
              · exact .inl (List.eq_nil_of_length_eq_zero h0)
              · exact .inr (List.eq_nil_of_length_eq_zero (by omega))
            rcases this with h0 | h0 <;> rw [h0] <;> simp [Sym.mrg_nil, Sym.nil_mrg]⟩
          have Q3 : Aside0 (¬ (mid < en ∧ en < b) → P ++ Sym.mrg ky X Y ++ S = P ++ Sym.mrg ky X1 Y1 ++ (X2 ++ (Y2 ++ S))) := ⟨by
            intro hc
            rw [← HFIN.out]
            have : X2 = [] ∨ Y2 = [] := by
              by_cases h0 : X2.length = 0
              · exact .inl (List.eq_nil_of_length_eq_zero h0)
              · exact .inr (List.eq_nil_of_length_eq_zero (by omega))
            rcases this with h0 | h0 <;> rw [h0] <;> simp [Sym.mrg_nil, Sym.nil_mrg]⟩
          have hcs : ((a < s ∧ ¬ s < mid ∧ ¬ m < en) ∨ (¬ a < s ∧ s < mid ∧ m < en) ∨ (a < s ∧ s < mid ∧ m < en)) ∧ ((s < m ∧ mid < en ∧ ¬ en < b) ∨ (¬ s < m ∧ ¬ mid < en ∧ en < b) ∨ (s < m ∧ mid < en ∧ en < b)) := by omega
          clear hamd lX lY ha hm hb hlen hlo hle hhi hen hX1 hX2 hY1 hY2 hmr hXX hYY sX1 sX2 sY1 sY2 hN2 k1 k2 k3 k4 k5 k6 k7 k8 HI HR HFIN hlt
          obtain ⟨hca, hcb⟩ := hcs
          rcases hca with ⟨t1, t2, t3⟩ | ⟨t1, t2, t3⟩ | ⟨t1, t2, t3⟩
          all_goals rcases hcb with ⟨t4, t5, t6⟩ | ⟨t4, t5, t6⟩ | ⟨t4, t5, t6⟩
          all_goals (try (have hq := Q1.out (by omega); have HR1 : Aside0 (Kd.R k51 51 wr base ok (.slice (some ⟨g, 0, none⟩) N c) ((P ++ X1) ++ Y1 ++ X2 ++ (Y2 ++ S))) := ⟨by rw [hq]; exact HR0.out⟩; have HC1 := HC; clear hq))
          all_goals (try (have Q2E := Aside0.mk (Q2.out (by omega))))
          all_goals (try (have Q3E := Aside0.mk (Q3.out (by omega))))
          all_goals clear Q1 Q2 Q3
          all_goals (go_wp2_with (first
            | (go_at_call 63; (with_reducible refine (HROT.out t4 t3 wr HR0.out).mono ?_); rintro e w2 ⟨rfl, hR2, hC2⟩; have HR1 := Aside0.mk hR2; have HC1 := Aside0.mk (HC.out.trans hC2); clear hR2 hC2)
            | (go_at_call 60; (with_reducible refine (HLFT.out t1 t2 _ HR1.out).mono ?_); rintro e w3 ⟨rfl, hR2, hC2⟩; have HR2 := Aside0.mk hR2; have HC2 := Aside0.mk (HC1.out.trans hC2); clear hR2 hC2)
            | (go_at_call 60; (with_reducible refine (HRGT.out t5 t6 _ ?ss).mono ?_); (case ss => first | exact HR2.out | (rw [Q2E.out]; exact HR1.out)); rintro e w4 ⟨rfl, hR2, hC2⟩; have HR3 := Aside0.mk hR2; have HC3 := Aside0.mk (Chg.trans (by first | exact HC2.out | exact HC1.out) hC2); clear hR2 hC2)))
          all_goals (try simp only [Exit.inBlock, Exit.then])
          all_goals refine bodyPost_end (results_none rfl _ _ _) rfl ?_
          all_goals exact ⟨rfl, by first | exact HR3.out | (rw [Q3E.out]; exact HR2.out) | (rw [Q3E.out, Q2E.out]; exact HR1.out), by first | exact HC3.out | exact HC2.out | exact HC1.out⟩
    · rw [if_neg hcase] at hlo hhi
      have HCASE := Aside0.mk hcase
      have hhi := hhi.symm
      have hlo := hlo.symm
      subst hlo
      subst hhi
      go_enter Try.func60, Try.ntmps60
      go_wp2
      clear e1 e2 e3 e4 e5 e6 d1 d2
      go_loopw [20, 21] (fun v10 v11 W => ∃ (s r : Nat), v10 = .int .i64 (s : Int) ∧ v11 = .int .i64 (r : Int) ∧ Aside0 (SymI X Y a m p a m s r) ∧ Aside0 (Kd.R k51 51 W base ok (.slice (some ⟨g, 0, none⟩) N c) (P ++ X ++ Y ++ S)) ∧ Aside0 (Chg w W ok)) (fun v10 v11 _ => (intOf v11).toNat - (intOf v10).toNat)
      case atStart => exact ⟨a, m, rfl, rfl, ⟨Nat.le_refl _, hlohi, Nat.le_refl _, .inl rfl, .inl rfl⟩, H0, ⟨Chg.refl _ _⟩⟩
      case round =>
        clear H0
        obtain ⟨s, r, rfl, rfl, HI, HR, HC⟩ := hrel
        have hlo := HI.out.wl
        have hle := HI.out.le
        have hhi := HI.out.wr
        obtain ⟨ha, hm, hb, hlen⟩ := HE.out
        by_cases hlt : s < r
        · obtain ⟨q, hq⟩ : ∃ q, q = (s + r) / 2 := ⟨_, rfl⟩
          have hhi2 : ((s : Int) + (r : Int)) / 2 = (q : Int) := by omega
          have hqb : a ≤ q ∧ q < m := by omega
          obtain ⟨r1, r2, r3, r4, r5⟩ := sym_range HSN.out hqb.1 hqb.2
          obtain ⟨pc, hpc⟩ : ∃ pc, pc = p - q := ⟨_, rfl⟩
          have hqX : q - a < X.length := by omega
          have hpY : pc - m < Y.length := by omega
          obtain ⟨x, hx⟩ : ∃ x, X[q - a]? = some x := ⟨_, List.getElem?_eq_getElem hqX⟩
          obtain ⟨y, hy⟩ : ∃ y, Y[pc - m]? = some y := ⟨_, List.getElem?_eq_getElem hpY⟩
          have p0 : (P ++ X ++ Y ++ S)[q]? = some x := by
            rw [List.append_assoc, List.append_assoc, List.getElem?_append_right (by omega), show q - P.length = q - a by omega, List.getElem?_append_left hqX, hx]
          have p1 : (P ++ X ++ Y ++ S)[pc]? = some y := by
            rw [List.append_assoc, List.getElem?_append_right (by simp; omega), show pc - (P ++ X).length = pc - m by simp; omega, List.getElem?_append_left hpY, hy]
          obtain ⟨x0, x1, -, -⟩ := R_pair_at HR.out q x p0
          obtain ⟨y0, y1, -, -⟩ := R_pair_at HR.out pc y p1
          have e1 : IntKind.i64.wrap ((s : Int) + (r : Int)) = (s : Int) + (r : Int) := by rw [wrapA (by omega)]; omega
          have e2 : IntKind.i64.wrap ((p : Int) - (q : Int)) = (pc : Int) := by rw [wrapS (by omega) (by have := HSN.out.hp; have := HSN.out.hnn; omega)]; omega
          have b1 : (0 : Int) ≤ (q : Int) := by omega
          have b2 : (q : Int) < (N : Int) := by omega
          have b3 : (0 : Int) ≤ (pc : Int) := by omega
          have b4 : (pc : Int) < (N : Int) := by omega
          have HP := Aside0.mk (And.intro p0 p1)
          have HXY := Aside0.mk (And.intro hx (show Y[p - q - m]? = some y by rw [← hpc]; exact hy))
          have HM := Aside0.mk (And.intro hqb (And.intro hq (And.intro hlo (And.intro hle hhi))))
          clear ha hm hb hlen hlo hle hhi hq hpc hqX hpY hx hy p0 p1 r1 r2 r3 r4 r5 hqb
          by_cases hk : y.f0 < x.f0
          · have hcm : cmpI y.f0 x.f0 = -1 := by unfold cmpI; rw [if_pos hk]
            have HCM := Aside0.mk hcm
            have HK := Aside0.mk hk
            clear hcm hk
            go_wp2
            go_region_held3 (fun W' => W'.cell? ⟨g, pc * 2, none⟩ = some (.int .i64 y.f0) ∧ W'.cell? ⟨g, pc * 2 + 1, none⟩ = some (.int .i64 y.f1) ∧ W'.cell? ⟨g, q * 2, none⟩ = some (.int .i64 x.f0) ∧ W'.cell? ⟨g, q * 2 + 1, none⟩ = some (.int .i64 x.f1)) (first | exact ⟨y0, y1, x0, x1⟩ | exact ⟨y2, y3, x2, x3⟩)
              (first | (go_at_call 43; (with_reducible refine (model_byKey.calls y.f0 y.f1 x.f0 x.f1 _ _ (byKey_val _ _ _ _)).mono ?_); rintro e w2 ⟨rfl, hb2⟩; rw [HCM.out]; have HR2 := Aside0.mk (Kd.R_below (Kd.R_drew HR.out) hb2); have HC2 := Aside0.mk (HC.out.drew.trans (Chg.of_below hb2 ok)); obtain ⟨x2, x3, -, -⟩ := R_pair_at HR2.out q x HP.out.1; obtain ⟨y2, y3, -, -⟩ := R_pair_at HR2.out pc y HP.out.2; clear hb2))
            clear x0 x1 y0 y1
            go_wp2
            go_roundw
            case rel =>
              obtain ⟨hqb, hq, hlo, hle, hhi⟩ := HM.out
              exact ⟨s, q, rfl, rfl, ⟨hlo, by omega, by omega, HI.out.left, .inr ⟨x, y, HXY.out.1, HXY.out.2, HK.out⟩⟩, HR2, HC2⟩
            case measure => obtain ⟨hqb, hq, hlo, hle, hhi⟩ := HM.out; simp [intOf]; omega
          · obtain ⟨cm, hcm⟩ : ∃ cm, cmpI y.f0 x.f0 = cm := ⟨_, rfl⟩
            have hcd : decide (cm < 0) = false := decide_eq_false (by rw [← hcm]; unfold cmpI; rw [if_neg hk]; split <;> omega)
            have HCM := Aside0.mk hcm
            have HK := Aside0.mk hk
            clear hcm hk
            go_wp2
            go_region_held3 (fun W' => W'.cell? ⟨g, pc * 2, none⟩ = some (.int .i64 y.f0) ∧ W'.cell? ⟨g, pc * 2 + 1, none⟩ = some (.int .i64 y.f1) ∧ W'.cell? ⟨g, q * 2, none⟩ = some (.int .i64 x.f0) ∧ W'.cell? ⟨g, q * 2 + 1, none⟩ = some (.int .i64 x.f1)) (first | exact ⟨y0, y1, x0, x1⟩ | exact ⟨y2, y3, x2, x3⟩)
              (first | (go_at_call 43; (with_reducible refine (model_byKey.calls y.f0 y.f1 x.f0 x.f1 _ _ (byKey_val _ _ _ _)).mono ?_); rintro e w2 ⟨rfl, hb2⟩; rw [HCM.out]; have HR2 := Aside0.mk (Kd.R_below (Kd.R_drew HR.out) hb2); have HC2 := Aside0.mk (HC.out.drew.trans (Chg.of_below hb2 ok)); obtain ⟨x2, x3, -, -⟩ := R_pair_at HR2.out q x HP.out.1; obtain ⟨y2, y3, -, -⟩ := R_pair_at HR2.out pc y HP.out.2; clear hb2))
            clear x0 x1 y0 y1
            go_wp2
            go_roundw
            case rel =>
              obtain ⟨hqb, hq, hlo, hle, hhi⟩ := HM.out
              exact ⟨q + 1, r, by go_num, rfl, ⟨by omega, by omega, hhi, .inr ⟨x, y, by rw [Nat.add_sub_cancel]; exact HXY.out.1, by rw [Nat.add_sub_cancel]; exact HXY.out.2, by have := HK.out; unfold ky; omega⟩, HI.out.right⟩, HR2, HC2⟩
            case measure => obtain ⟨hqb, hq, hlo, hle, hhi⟩ := HM.out; simp [intOf]; omega
        · obtain rfl : s = r := by omega
          obtain ⟨en, hen⟩ : ∃ en, en = nn - s := ⟨_, rfl⟩
          obtain ⟨X1, hX1⟩ : ∃ X1, X1 = X.take (s - a) := ⟨_, rfl⟩
          obtain ⟨X2, hX2⟩ : ∃ X2, X2 = X.drop (s - a) := ⟨_, rfl⟩
          obtain ⟨Y1, hY1⟩ : ∃ Y1, Y1 = Y.take (nn - s - m) := ⟨_, rfl⟩
          obtain ⟨Y2, hY2⟩ : ∃ Y2, Y2 = Y.drop (nn - s - m) := ⟨_, rfl⟩
          have hmr := sym_split HSN.out HI.out HX.out HY.out
          rw [← hX1, ← hX2, ← hY1, ← hY2] at hmr
          have hXX : X = X1 ++ X2 := by rw [hX1, hX2, List.take_append_drop]
          have hYY : Y = Y1 ++ Y2 := by rw [hY1, hY2, List.take_append_drop]
          have sX1 : Sym.Srt ky X1 := (List.pairwise_append.1 (hXX ▸ HX.out)).1
          have sX2 : Sym.Srt ky X2 := (List.pairwise_append.1 (hXX ▸ HX.out)).2.1
          have sY1 : Sym.Srt ky Y1 := (List.pairwise_append.1 (hYY ▸ HY.out)).1
          have sY2 : Sym.Srt ky Y2 := (List.pairwise_append.1 (hYY ▸ HY.out)).2.1
          have lX : X.length = X1.length + X2.length := by rw [hXX, List.length_append]
          have lY : Y.length = Y1.length + Y2.length := by rw [hYY, List.length_append]
          have hN2 := HSN.out
          have hnum : s = a + X1.length ∧ m = s + X2.length ∧ en = m + Y1.length ∧ b = en + Y2.length ∧ mid = s + Y1.length ∧ X1.length ≤ X.length ∧ Y1.length ≤ Y.length ∧ s ≤ nn := by
            obtain ⟨h3, h4, h5, h6, h7, h8, h9, h10⟩ := hN2
            rw [hX1, hX2, hY1, hY2]
            simp only [List.length_take, List.length_drop]
            omega
          obtain ⟨k1, k2, k3, k4, k5, k6, k7, k8⟩ := hnum
          have hamd : a < mid := by have := hN2.hmid; have := hN2.hm; have := hN2.hb; have := hN2.hd; have := hN2.he; omega
          have e1 : IntKind.i64.wrap ((nn : Int) - (s : Int)) = (en : Int) := by rw [wrapS (by omega) (by omega)]; omega
          have HR0 : Aside0 (Kd.R k51 51 wr base ok (.slice (some ⟨g, 0, none⟩) N c) (P ++ X1 ++ X2 ++ Y1 ++ (Y2 ++ S))) := ⟨by have := HR.out; rw [hXX, hYY] at this; simpa using this⟩
          have HFIN : Aside0 (P ++ Sym.mrg ky X1 Y1 ++ Sym.mrg ky X2 Y2 ++ S = P ++ Sym.mrg ky X Y ++ S) := ⟨by rw [hmr]; simp⟩
          have HROT : Aside0 (s < m → m < en → ∀ W, Kd.R k51 51 W base ok (.slice (some ⟨g, 0, none⟩) N c) (P ++ X1 ++ X2 ++ Y1 ++ (Y2 ++ S)) → Calls Try.prog 63 #[.slice (some ⟨g, 0, none⟩) N c, .int .i64 (s : Nat), .int .i64 (m : Nat), .int .i64 (en : Nat), .func (.func 43) #[] #[]] W fun e w' => e = .returned (.tuple #[]) ∧ Kd.R k51 51 w' base ok (.slice (some ⟨g, 0, none⟩) N c) ((P ++ X1) ++ Y1 ++ X2 ++ (Y2 ++ S)) ∧ Chg W w' ok) :=
            ⟨fun h1 h2 W hW => rotate_calls (P ++ X1) X2 Y1 (Y2 ++ S) (by omega) (by omega) _ N c _ base ok W hW hN s m en (by simp; omega) (by simp; omega) (by simp; omega)⟩
          have HLFT : Aside0 (a < s → s < mid → ∀ W, Kd.R k51 51 W base ok (.slice (some ⟨g, 0, none⟩) N c) ((P ++ X1) ++ Y1 ++ X2 ++ (Y2 ++ S)) → Calls Try.prog 60 #[.slice (some ⟨g, 0, none⟩) N c, .int .i64 (a : Nat), .int .i64 (s : Nat), .int .i64 (mid : Nat), .func (.func 43) #[] #[]] W fun e w' => e = .returned (.tuple #[]) ∧ Kd.R k51 51 w' base ok (.slice (some ⟨g, 0, none⟩) N c) (P ++ Sym.mrg ky X1 Y1 ++ (X2 ++ (Y2 ++ S))) ∧ Chg W w' ok) :=
            ⟨fun h1 h2 W hW => IHA.out P X1 Y1 (X2 ++ (Y2 ++ S)) (by have := HN.out; have := hN2.hd; have := hN2.he; omega) (by omega) (by omega) sX1 sY1 _ N c base ok W (by simpa using hW) hN a s mid (by omega) (by omega) (by omega)⟩
          have HRGT : Aside0 (mid < en → en < b → ∀ W, Kd.R k51 51 W base ok (.slice (some ⟨g, 0, none⟩) N c) (P ++ Sym.mrg ky X1 Y1 ++ (X2 ++ (Y2 ++ S))) → Calls Try.prog 60 #[.slice (some ⟨g, 0, none⟩) N c, .int .i64 (mid : Nat), .int .i64 (en : Nat), .int .i64 (b : Nat), .func (.func 43) #[] #[]] W fun e w' => e = .returned (.tuple #[]) ∧ Kd.R k51 51 w' base ok (.slice (some ⟨g, 0, none⟩) N c) (P ++ Sym.mrg ky X Y ++ S) ∧ Chg W w' ok) :=
            ⟨fun h1 h2 W hW => by rw [← HFIN.out]; have hl1 := Sym.mrg_length ky _ X1 Y1 rfl; exact IHA.out (P ++ Sym.mrg ky X1 Y1) X2 Y2 S (by have := HN.out; have := hN2.hd; have := hN2.he; omega) (by omega) (by omega) sX2 sY2 _ N c base ok W (by simpa using hW) hN mid en b (by simp; omega) (by simp; omega) (by simp; omega)⟩
          have Q1 : Aside0 (¬ (s < m ∧ m < en) → (P ++ X1) ++ Y1 ++ X2 ++ (Y2 ++ S) = P ++ X1 ++ X2 ++ Y1 ++ (Y2 ++ S)) := ⟨by
            intro hc
            have : X2 = [] ∨ Y1 = [] := by
              by_cases h0 : X2.length = 0
              · exact .inl (List.eq_nil_of_length_eq_zero h0)
              · exact .inr (List.eq_nil_of_length_eq_zero (by omega))
            rcases this with h0 | h0 <;> rw [h0] <;> simp⟩
          have Q2 : Aside0 (¬ (a < s ∧ s < mid) → P ++ Sym.mrg ky X1 Y1 ++ (X2 ++ (Y2 ++ S)) = (P ++ X1) ++ Y1 ++ X2 ++ (Y2 ++ S)) := ⟨by
            intro hc
            have : X1 = [] ∨ Y1 = [] := by
              by_cases h0 : X1.length = 0
              · exact .inl (List.eq_nil_of_length_eq_zero h0)
              · exact .inr (List.eq_nil_of_length_eq_zero (by omega))
            rcases this with h0 | h0 <;> rw [h0] <;> simp [Sym.mrg_nil, Sym.nil_mrg]⟩
          have Q3 : Aside0 (¬ (mid < en ∧ en < b) → P ++ Sym.mrg ky X Y ++ S = P ++ Sym.mrg ky X1 Y1 ++ (X2 ++ (Y2 ++ S))) := ⟨by
            intro hc
            rw [← HFIN.out]
            have : X2 = [] ∨ Y2 = [] := by
              by_cases h0 : X2.length = 0
              · exact .inl (List.eq_nil_of_length_eq_zero h0)
              · exact .inr (List.eq_nil_of_length_eq_zero (by omega))
            rcases this with h0 | h0 <;> rw [h0] <;> simp [Sym.mrg_nil, Sym.nil_mrg]⟩
          have hcs : ((a < s ∧ ¬ s < mid ∧ ¬ m < en) ∨ (¬ a < s ∧ s < mid ∧ m < en) ∨ (a < s ∧ s < mid ∧ m < en)) ∧ ((s < m ∧ mid < en ∧ ¬ en < b) ∨ (¬ s < m ∧ ¬ mid < en ∧ en < b) ∨ (s < m ∧ mid < en ∧ en < b)) := by omega
          clear hamd lX lY ha hm hb hlen hlo hle hhi hen hX1 hX2 hY1 hY2 hmr hXX hYY sX1 sX2 sY1 sY2 hN2 k1 k2 k3 k4 k5 k6 k7 k8 HI HR HFIN hlt
          obtain ⟨hca, hcb⟩ := hcs
          rcases hca with ⟨t1, t2, t3⟩ | ⟨t1, t2, t3⟩ | ⟨t1, t2, t3⟩
          all_goals rcases hcb with ⟨t4, t5, t6⟩ | ⟨t4, t5, t6⟩ | ⟨t4, t5, t6⟩
          all_goals (try (have hq := Q1.out (by omega); have HR1 : Aside0 (Kd.R k51 51 wr base ok (.slice (some ⟨g, 0, none⟩) N c) ((P ++ X1) ++ Y1 ++ X2 ++ (Y2 ++ S))) := ⟨by rw [hq]; exact HR0.out⟩; have HC1 := HC; clear hq))
          all_goals (try (have Q2E := Aside0.mk (Q2.out (by omega))))
          all_goals (try (have Q3E := Aside0.mk (Q3.out (by omega))))
          all_goals clear Q1 Q2 Q3
          all_goals (go_wp2_with (first
            | (go_at_call 63; (with_reducible refine (HROT.out t4 t3 wr HR0.out).mono ?_); rintro e w2 ⟨rfl, hR2, hC2⟩; have HR1 := Aside0.mk hR2; have HC1 := Aside0.mk (HC.out.trans hC2); clear hR2 hC2)
            | (go_at_call 60; (with_reducible refine (HLFT.out t1 t2 _ HR1.out).mono ?_); rintro e w3 ⟨rfl, hR2, hC2⟩; have HR2 := Aside0.mk hR2; have HC2 := Aside0.mk (HC1.out.trans hC2); clear hR2 hC2)
            | (go_at_call 60; (with_reducible refine (HRGT.out t5 t6 _ ?ss).mono ?_); (case ss => first | exact HR2.out | (rw [Q2E.out]; exact HR1.out)); rintro e w4 ⟨rfl, hR2, hC2⟩; have HR3 := Aside0.mk hR2; have HC3 := Aside0.mk (Chg.trans (by first | exact HC2.out | exact HC1.out) hC2); clear hR2 hC2)))
          all_goals (try simp only [Exit.inBlock, Exit.then])
          all_goals refine bodyPost_end (results_none rfl _ _ _) rfl ?_
          all_goals exact ⟨rfl, by first | exact HR3.out | (rw [Q3E.out]; exact HR2.out) | (rw [Q3E.out, Q2E.out]; exact HR1.out), by first | exact HC3.out | exact HC2.out | exact HC1.out⟩
theorem symMerge_calls : ∀ (n : Nat) (P X Y S : List S51), X.length + Y.length ≤ n → 0 < X.length → 0 < Y.length → Sym.Srt ky X → Sym.Srt ky Y → SymP P X Y S
  | 0, P, X, Y, S, hn, hX, hY, _, _ => by omega
  | n + 1, P, X, Y, S, hn, hX, hY, h1, h2 => symMerge_step n (symMerge_calls n) P X Y S hn hX hY h1 h2
end Go.Proofs.Ytanlnfcjdjamaaa.P
