/- P.eventTurns_holds, part 24 of 26: the contracts of the Go functions that the law calls, its own walk, and its plain law, for every input that the statement speaks of. -/
import Derived.Test.YtagdkmcgepidoaaMTu4
import Derived.Test.YtagdkmcgepidoaaMTu15
import Derived.Test.YtagdkmcgepidoaaMTu19
import Derived.Test.YtagdkmcgepidoaaMTu21
import Derived.Test.YtagdkmcgepidoaaMTu2
import Derived.Test.YtagdkmcgepidoaaMTu10
set_option linter.unusedVariables false
set_option linter.unusedSimpArgs false
/- E11 -/
namespace Go.Proofs.Ytagdkmcgepidoaa.P
open Go.RowKit Go.Proofs.YtagdkmcgepidoaaW.PrintWords Go.Proofs.YtagdkmcgepidoaaW.PrintLast Go.Proofs.YtagdkmcgepidoaaW.PrintMore
def swapL (l : List S67) (i : Nat) : List S67 := (l.set i (J67 l ((i + 1 : Nat) : Int))).set (i + 1) (J67 l (i : Int))
def turnAt (l0 : List S67) (a1 : Int) : Nat := (a1 % 18446744073709551616).toNat % (l0.length - 1)
def larchlaw05_EventTurns.t (l0 : List S67) : Option Bool := (event_Same.f l0 (l0.take (l0.length - 1))).bind fun s => if s.2 = 0 ∧ s.1 = false then some true else none
def larchlaw05_EventTurns.s (k : Nat) (l0 : List S67) (a1 : Int) : Option Bool := (larchref05_CopyEvents.f k l0).bind fun l => if l.length = l0.length then (if (J67 l0 (turnAt l0 a1 : Int)).f0 = (J67 l0 ((turnAt l0 a1 + 1 : Nat) : Int)).f0 then larchlaw05_EventTurns.t l0 else (event_Same.f l0 (swapL l (turnAt l0 a1))).bind fun s => if s.2 = 0 ∧ s.1 = true then larchlaw05_EventTurns.t l0 else none) else none
def larchlaw05_EventTurns.g (k : Nat) (l0 : List S67) (a1 : Int) : Option Bool := (event_Calls.f l0).bind fun c => (event_Cut.f l0 (c.1.length : Int)).bind fun u => (event_Same.f l0 l0).bind fun s => (larchref05_SameEvents.f k u.1 l0).bind fun q => if c.2 = 0 ∧ u.2 = 0 ∧ s.2 = 0 ∧ q = true ∧ s.1 = true then (if l0.length < 2 then some true else larchlaw05_EventTurns.s k l0 a1) else none
def larchlaw05_EventTurns.f (k : Nat) (l0 : List S67) (a1 : Int) : Option Bool := (larchlaw05_known.f).bind fun t => if t = true then ((event_Check.f l0).bind fun e0 => if e0 = 0 then larchlaw05_EventTurns.g k l0 a1 else ((event_Same.f l0 []).bind fun s => if s.2 = e0 then some true else none)) else none
def c67 (x : S67) (A9 : Option Addr) (c9 : Nat) : List Value := [.int .i64 x.f0, .bool x.f1, .int .i64 x.f2.f0, .int .i64 x.f2.f1, .int .i64 x.f2.f2, .int .i64 x.f2.f3, .bool x.f3.f0, .int .i64 x.f3.f1, .int .i64 x.f3.f2, .slice A9 x.f3.f3.length c9]
theorem elem67 {g n cap base : Nat} {W : World} {ok : Nat → Prop} {l : List S67} (h : Kd.R k67 67 W base ok (.slice (some ⟨g, 0, none⟩) n cap) l) (i : Nat) (hi : i < n) : ∃ A9 c9, Kd.M k67 W base (fun k => ok k ∧ k ≠ g) (J67 l (i : Int)) (c67 (J67 l (i : Int)) A9 c9) ∧ (∀ j u, (c67 (J67 l (i : Int)) A9 c9)[j]? = some u → W.cell? ⟨g, i * 10 + j, none⟩ = some u) ∧
    W.cell? ⟨g, i * 10, none⟩ = some (.int .i64 (J67 l (i : Int)).f0) ∧ W.cell? ⟨g, i * 10 + 1, none⟩ = some (.bool (J67 l (i : Int)).f1) ∧ W.cell? ⟨g, i * 10 + 2, none⟩ = some (.int .i64 (J67 l (i : Int)).f2.f0) ∧ W.cell? ⟨g, i * 10 + 3, none⟩ = some (.int .i64 (J67 l (i : Int)).f2.f1) ∧ W.cell? ⟨g, i * 10 + 4, none⟩ = some (.int .i64 (J67 l (i : Int)).f2.f2) ∧ W.cell? ⟨g, i * 10 + 5, none⟩ = some (.int .i64 (J67 l (i : Int)).f2.f3) ∧ W.cell? ⟨g, i * 10 + 6, none⟩ = some (.bool (J67 l (i : Int)).f3.f0) ∧ W.cell? ⟨g, i * 10 + 7, none⟩ = some (.int .i64 (J67 l (i : Int)).f3.f1) ∧ W.cell? ⟨g, i * 10 + 8, none⟩ = some (.int .i64 (J67 l (i : Int)).f3.f2) ∧ W.cell? ⟨g, i * 10 + 9, none⟩ = some (.slice A9 (J67 l (i : Int)).f3.f3.length c9) ∧ ∀ j, W.frozen? ⟨g, i * 10 + j, none⟩ = false := by
  obtain ⟨c, hc, hM, hcc, hff⟩ := Kd.R_elem h z67 (i : Int) (by omega) (by omega)
  rw [show l.getD (i : Int).toNat z67 = J67 l (i : Int) from rfl] at hM
  simp only [Int.toNat_natCast, show k67.sz = 10 from rfl] at hcc hff
  obtain ⟨v9, rfl, hv9⟩ := k67_openM hM
  obtain ⟨A9, c9, rfl⟩ := Kd.R_slice hv9
  exact ⟨A9, c9, hM, hcc, hcc 0 _ rfl, hcc 1 _ rfl, hcc 2 _ rfl, hcc 3 _ rfl, hcc 4 _ rfl, hcc 5 _ rfl, hcc 6 _ rfl, hcc 7 _ rfl, hcc 8 _ rfl, hcc 9 _ rfl, hff⟩
theorem put67 {g n cap base : Nat} {W : World} {ok : Nat → Prop} {l : List S67} (h : Kd.R k67 67 W base ok (.slice (some ⟨g, 0, none⟩) n cap) l) (hb : base ≤ W.heap.size) (i : Nat) (hi : i < n) (y : S67) (AY : Option Addr) (cY : Nat) (hM : Kd.M k67 W base (fun k => ok k ∧ k ≠ g) y (c67 y AY cY)) :
    Kd.R k67 67 (W.setCells g (i * 10) (c67 y AY cY)) base ok (.slice (some ⟨g, 0, none⟩) n cap) (l.set i y) ∧ W.grownBy (W.setCells g (i * 10) (c67 y AY cY)) (some g) ∧ ∀ w0, Below base w0 W → Below base w0 (W.setCells g (i * 10) (c67 y AY cY)) := by
  obtain ⟨A9, c9, -, hcc, -⟩ := elem67 h i hi
  have hbg : base ≤ g := Kd.R_base h g (by simp [Value.ownBlock])
  obtain ⟨h1, h2⟩ := Kd.R_seg h (i : Int) (by omega) (by omega) (c := c67 (J67 l (i : Int)) A9 c9) (seg := c67 y AY cY) (j := 0) (x' := y) rfl (by rw [Int.toNat_natCast]; exact hcc) (by show 0 + 10 ≤ 10; decide) hM (fun _ hk => hk)
  exact ⟨h1, h2, fun w0 hw => hw.grown h2 hb (fun k hk => by injection hk with hk; omega)⟩
theorem turn_idx (l0 : List S67) (a1 : Int) (h : 2 ≤ l0.length) (hm : l0.length ≤ 9223372036854775807) : wrap64 ((IntKind.u64.wrap a1).tmod ((l0.length : Int) - 1)) = (turnAt l0 a1 : Int) := by
  have h1 : IntKind.u64.wrap a1 = ((a1 % 18446744073709551616).toNat : Int) := by
    rw [Int.toNat_of_nonneg (by omega)]
    rfl
  have h2 : (l0.length : Int) - 1 = ((l0.length - 1 : Nat) : Int) := by omega
  rw [h1, h2, ← Int.ofNat_tmod]
  unfold turnAt
  have := Nat.mod_lt (a1 % 18446744073709551616).toNat (show l0.length - 1 > 0 by omega)
  unfold wrap64
  omega
set_option maxHeartbeats 8000000 in
set_option maxRecDepth 100000 in
theorem larchlaw05_EventTurns.calls (k : Nat) (A0 : Option Addr) (c0 : Nat) (l0 : List (S67)) (a1 : Int) (r : Bool) (w : World) (hr0 : Kd.C k67 w A0 l0.length l0) (hc0 : l0.length ≤ c0) (h : larchlaw05_EventTurns.f k l0 a1 = some r) :
    Calls Try.prog 10 #[.slice A0 l0.length c0, .int .i64 a1] w fun e w' => e = .returned (.bool r) ∧ Below w.heap.size w w' := by
  have hu67 := Try.underlying67
  have hmx : l0.length ≤ 9223372036854775807 := hr0.2.1
  unfold larchlaw05_EventTurns.f at h
  obtain ⟨t, ht, h⟩ := Option.bind_eq_some_iff.mp h
  split at h
  rotate_left
  · simp at h
  rename_i htt
  subst htt
  have HK := Aside0.mk ht
  clear ht
  obtain ⟨e0, he0, h⟩ := Option.bind_eq_some_iff.mp h
  have HE := Aside0.mk he0
  clear he0
  by_cases hz : e0 = 0
  rotate_left
  · rw [if_neg hz] at h
    obtain ⟨⟨s1, s2⟩, hs, h2⟩ := Option.bind_eq_some_iff.mp h
    clear h
    by_cases hse : s2 = e0
    rotate_left
    · rw [if_neg hse] at h2; simp at h2
    rw [if_pos hse] at h2
    subst hse
    obtain rfl : true = r := by simpa using h2
    clear h2
    have HS := Aside0.mk hs
    clear hs
    have hz' : (s2 != 0) = true := by simpa using hz
    go_enter Try.func10, Try.ntmps10
    go_wp2_with (first
      | (go_at_call 12; refine (larchlaw05_known.calls true _ HK.out).mono ?_; rintro e w1 ⟨rfl, hb⟩; have HB1 := Aside0.mk hb; have hr1 := Kd.C_below hr0 hb; clear hb)
      | (go_at_call 30; refine (event_Check.calls A0 c0 l0 s2 w1 hr1 hc0 HE.out).mono ?_; rintro e w2 ⟨rfl, hb⟩; have HB2 := Aside0.mk (below_step HB1.out hb); have hr2 := Kd.C_below hr1 hb; clear hb)
      | (go_at_call 36; refine (event_Same.calls A0 c0 l0 none 0 [] s1 s2 _ hr2 hc0 (Kd.C_nil _ _) (Nat.le_refl _) HS.out).mono ?_; rintro e w3 ⟨rfl, hb⟩; have HB3 := Aside0.mk (below_step HB2.out hb); have hr3 := Kd.C_below hr2 hb; clear hb)
      | (go_at_call 30; refine (event_Check.calls A0 c0 l0 s2 _ hr3 hc0 HE.out).mono ?_; rintro e w4 ⟨rfl, hb⟩; have HB4 := Aside0.mk (below_step HB3.out hb); clear hb))
    go_ret
    exact ⟨rfl, HB4.out⟩
  subst hz
  rw [if_pos rfl] at h
  unfold larchlaw05_EventTurns.g at h
  obtain ⟨⟨cs, c2⟩, hcs, h2⟩ := Option.bind_eq_some_iff.mp h
  clear h
  obtain ⟨⟨us, u2⟩, hus, h3⟩ := Option.bind_eq_some_iff.mp h2
  clear h2
  obtain ⟨⟨s1, s2⟩, hss, h4⟩ := Option.bind_eq_some_iff.mp h3
  clear h3
  obtain ⟨q, hq, h5⟩ := Option.bind_eq_some_iff.mp h4
  clear h4
  by_cases hcd : c2 = 0 ∧ u2 = 0 ∧ s2 = 0 ∧ q = true ∧ s1 = true
  rotate_left
  · rw [if_neg hcd] at h5; simp at h5
  rw [if_pos hcd] at h5
  obtain ⟨rfl, rfl, rfl, rfl, rfl⟩ := hcd
  have HC := Aside0.mk hcs
  have HU := Aside0.mk hus
  have HS := Aside0.mk hss
  have HQ := Aside0.mk hq
  clear hcs hus hss hq
  by_cases h2 : l0.length < 2
  · rw [if_pos h2] at h5
    obtain rfl : true = r := by simpa using h5
    clear h5
    have hd2 : decide ((l0.length : Int) < 2) = true := decide_eq_true (by omega)
    go_enter Try.func10, Try.ntmps10
    go_wp2_with (first
      | (go_at_call 12; refine (larchlaw05_known.calls true _ HK.out).mono ?_; rintro e w1 ⟨rfl, hb⟩; have HB1 := Aside0.mk hb; have hr1 := Kd.C_below hr0 hb; clear hb)
      | (go_at_call 30; refine (event_Check.calls A0 c0 l0 0 w1 hr1 hc0 HE.out).mono ?_; rintro e w2 ⟨rfl, hb⟩; have HB2 := Aside0.mk (below_step HB1.out hb); have hr2 := Kd.C_below hr1 hb; clear hb)
      | (go_at_call 13; refine (event_Calls.calls A0 c0 l0 cs 0 _ hr2 hc0 HC.out).mono ?_; rintro e w3 ⟨v3, rfl, ho3, hb⟩; obtain ⟨A3, c3, rfl⟩ := Kd.S_slice ho3; have HB3 := Aside0.mk (below_step HB2.out hb); have hr3 := Kd.C_below hr2 hb; clear hb ho3)
      | (go_at_call 32; refine (event_Cut.calls A0 c0 l0 (cs.length : Int) us 0 _ hr3 hc0 HU.out).mono ?_; rintro e w4 ⟨v4, rfl, ho4, hb⟩; obtain ⟨A4, c4, rfl⟩ := Kd.S_slice ho4; have HB4 := Aside0.mk (below_step HB3.out hb); have hr4 := Kd.C_below hr3 hb; have hcut4 := (Kd.S_reads' ho4).2.2; have hcc4 := (Kd.S_reads' ho4).2.1; clear hb ho4)
      | (go_at_call 36; refine (event_Same.calls A0 c0 l0 A0 c0 l0 true 0 _ hr4 hc0 hr4 hc0 HS.out).mono ?_; rintro e w5 ⟨rfl, hb⟩; have HB5 := Aside0.mk (below_step HB4.out hb); have hr5 := Kd.C_below hr4 hb; have hcut5 := Kd.C_below hcut4 hb; clear hb)
      | (go_at_call 29; refine (larchref05_SameEvents.calls k A4 c4 us A0 c0 l0 true _ hcut5 hcc4 hr5 hc0 HQ.out).mono ?_; rintro e w6 ⟨rfl, hb⟩; have HB6 := Aside0.mk (below_step HB5.out hb); have hr6 := Kd.C_below hr5 hb; clear hb))
    go_ret
    exact ⟨rfl, HB6.out⟩
  rw [if_neg h2] at h5
  have hd2 : decide ((l0.length : Int) < 2) = false := decide_eq_false (by omega)
  unfold larchlaw05_EventTurns.s at h5
  obtain ⟨l, hl, h6⟩ := Option.bind_eq_some_iff.mp h5
  clear h5
  by_cases hll : l.length = l0.length
  rotate_left
  · rw [if_neg hll] at h6; simp at h6
  rw [if_pos hll] at h6
  have HL := Aside0.mk hl
  clear hl
  have hi : turnAt l0 a1 + 1 < l0.length := by
    unfold turnAt
    have := Nat.mod_lt (a1 % 18446744073709551616).toNat (show l0.length - 1 > 0 by omega)
    omega
  go_enter Try.func10, Try.ntmps10
  go_wp2_with (first
      | (go_at_call 12; refine (larchlaw05_known.calls true _ HK.out).mono ?_; rintro e w1 ⟨rfl, hb⟩; have HB1 := Aside0.mk hb; have hr1 := Kd.C_below hr0 hb; clear hb)
      | (go_at_call 30; refine (event_Check.calls A0 c0 l0 0 w1 hr1 hc0 HE.out).mono ?_; rintro e w2 ⟨rfl, hb⟩; have HB2 := Aside0.mk (below_step HB1.out hb); have hr2 := Kd.C_below hr1 hb; clear hb)
      | (go_at_call 13; refine (event_Calls.calls A0 c0 l0 cs 0 _ hr2 hc0 HC.out).mono ?_; rintro e w3 ⟨v3, rfl, ho3, hb⟩; obtain ⟨A3, c3, rfl⟩ := Kd.S_slice ho3; have HB3 := Aside0.mk (below_step HB2.out hb); have hr3 := Kd.C_below hr2 hb; clear hb ho3)
      | (go_at_call 32; refine (event_Cut.calls A0 c0 l0 (cs.length : Int) us 0 _ hr3 hc0 HU.out).mono ?_; rintro e w4 ⟨v4, rfl, ho4, hb⟩; obtain ⟨A4, c4, rfl⟩ := Kd.S_slice ho4; have HB4 := Aside0.mk (below_step HB3.out hb); have hr4 := Kd.C_below hr3 hb; have hcut4 := (Kd.S_reads' ho4).2.2; have hcc4 := (Kd.S_reads' ho4).2.1; clear hb ho4)
      | (go_at_call 36; refine (event_Same.calls A0 c0 l0 A0 c0 l0 true 0 _ hr4 hc0 hr4 hc0 HS.out).mono ?_; rintro e w5 ⟨rfl, hb⟩; have HB5 := Aside0.mk (below_step HB4.out hb); have hr5 := Kd.C_below hr4 hb; have hcut5 := Kd.C_below hcut4 hb; clear hb)
      | (go_at_call 29; refine (larchref05_SameEvents.calls k A4 c4 us A0 c0 l0 true _ hcut5 hcc4 hr5 hc0 HQ.out).mono ?_; rintro e w6 ⟨rfl, hb⟩; have HB6 := Aside0.mk (below_step HB5.out hb); have hr6 := Kd.C_below hr5 hb; clear hb)
      | (go_at_call 43; refine (larchref05_CopyEvents.calls k A0 c0 l0 l _ hr6 hc0 HL.out).mono ?_; rintro e w7 ⟨v7, rfl, ho7, hb⟩; have HB7 := Aside0.mk (below_step HB6.out hb); have hr7 := Kd.C_below hr6 hb; have HO7 := Aside0.mk (Kd.R_lower (Kd.S_R ho7) (below_size HB6.out)); obtain ⟨g, cg, ea, -, hgl, -⟩ := Kd.R_form HO7.out (by omega); subst ea; clear hb ho7))
  rw [turn_idx l0 a1 (by omega) hmx]
  generalize turnAt l0 a1 = i at h6 hi
  obtain ⟨x, hx⟩ : ∃ x, x = J67 l (i : Int) := ⟨_, rfl⟩
  obtain ⟨y, hy⟩ : ∃ y, y = J67 l ((i + 1 : Nat) : Int) := ⟨_, rfl⟩
  obtain ⟨AX, cX, hMX, hcX, x0, x1, x2, x3, x4, x5, x6, x7, x8, x9, fX⟩ := elem67 HO7.out i (by omega)
  obtain ⟨AY, cY, hMY, hcY, y0, y1, y2, y3, y4, y5, y6, y7, y8, y9, fY⟩ := elem67 HO7.out (i + 1) (by omega)
  rw [← hx] at hMX hcX x0 x1 x2 x3 x4 x5 x6 x7 x8 x9
  rw [← hy] at hMY hcY y0 y1 y2 y3 y4 y5 y6 y7 y8 y9
  have HX := Aside0.mk hx
  have HY := Aside0.mk hy
  have HMX := Aside0.mk hMX
  have HMY := Aside0.mk hMY
  have HCX := Aside0.mk hcX
  have HCY := Aside0.mk hcY
  have HI := Aside0.mk hi
  clear hx hy hMX hMY hcX hcY
  have b1 : (0 : Int) ≤ (i : Int) := by omega
  have b2 : (i : Int) < (l0.length : Int) := by omega
  have b3 : (0 : Int) ≤ (i : Int) + 1 := by omega
  have b4 : (i : Int) + 1 < (l0.length : Int) := by omega
  have b5 : IntKind.i64.wrap ((i : Int) + 1) = (i : Int) + 1 := IntWalk.i64_in _ (by omega)
  have b6 : ((i : Int) + 1).toNat = i + 1 := by omega
  have b7 : (i : Int).toNat = i := by omega
  have fx0 := fX 0
  have fy0 := fY 0
  have fx1 := fX 1
  have fy1 := fY 1
  have fx2 := fX 2
  have fy2 := fY 2
  have fx3 := fX 3
  have fy3 := fY 3
  have fx4 := fX 4
  have fy4 := fY 4
  have fx5 := fX 5
  have fy5 := fY 5
  have fx6 := fX 6
  have fy6 := fY 6
  have fx7 := fX 7
  have fy7 := fY 7
  have fx8 := fX 8
  have fy8 := fY 8
  have fx9 := fX 9
  have fy9 := fY 9
  rw [Nat.add_zero] at fx0 fy0
  clear fX fY
  clear hi
  go_region
  change Exit.then _ _ _ _ (((w7.setCells g (i * 10) (c67 y AY cY)).setCells g ((i + 1) * 10) (c67 x AX cX)).drew)
  clear b5 b6 b7
  obtain ⟨HO8, hg8, hb8⟩ := put67 HO7.out (below_size HB7.out) i (by have := HI.out; omega) y AY cY HMY.out
  have HB8 := hb8 w HB7.out
  obtain ⟨HO9, -, hb9⟩ := put67 HO8 (below_size HB8) (i + 1) (by have := HI.out; omega) x AX cX (Kd.M_grown HMX.out hg8 (fun k hk he => hk.2 (by injection he)))
  have HB9 := below_drew1 (hb9 w HB8)
  have hT : Kd.C k67 ((w7.setCells g (i * 10) (c67 y AY cY)).setCells g ((i + 1) * 10) (c67 x AX cX)).drew (some ⟨g, 0, none⟩) (swapL l i).length (swapL l i) := by
    unfold swapL
    rw [← HX.out, ← HY.out]
    exact Kd.C_below ((Kd.R_reads' HO9).2.2) (below_drew1 (Below.refl _ _))
  have hlT : (swapL l i).length = l0.length := by unfold swapL; simp [hll]
  have hcg : (swapL l i).length ≤ cg := by rw [hlT, ← hll]; exact (Kd.R_reads' HO7.out).2.1
  have hr9 := Kd.C_below hr0 HB9
  have HB9' := Aside0.mk HB9
  have HT := Aside0.mk hT
  clear x0 x1 x2 x3 x4 x5 x6 x7 x8 x9 y0 y1 y2 y3 y4 y5 y6 y7 y8 y9 fx0 fx1 fx2 fx3 fx4 fx5 fx6 fx7 fx8 fx9 fy0 fy1 fy2 fy3 fy4 fy5 fy6 fy7 fy8 fy9 HO8 hg8 hb8 HB8 HO9 hb9 HB9 hT HMX HMY HCX HCY HX HY HO7
  generalize ((w7.setCells g (i * 10) (c67 y AY cY)).setCells g ((i + 1) * 10) (c67 x AX cX)).drew = w9 at *
  clear hr7 hr6 hr5 hr4 hr3 hr2 hr1
  obtain ⟨d1, B1, e1, ea, z0, -⟩ := at_T67 hr9 (i : Int) b1 b2
  subst ea
  obtain ⟨d2, B2, e2, ea, z1, -⟩ := at_T67 hr9 ((i : Int) + 1) b3 b4
  cases ea
  rw [show ((i + 1 : Nat) : Int) = (i : Int) + 1 by omega] at h6
  rw [show ((i : Int) + 1).toNat = i + 1 by omega] at z1
  rw [Int.toNat_natCast] at z0
  have tail : ∀ (W : World) (h : larchlaw05_EventTurns.t l0 = some r), Below w.heap.size w W → r = true ∧ Calls Try.prog 36 #[.slice (some d1) l0.length c0, .slice (some d1) (l0.length - 1) c0] W fun e w' => e = .returned (.tuple #[.bool false, .int .i64 0]) ∧ Below W.heap.size W w' := by
    intro W h hW
    unfold larchlaw05_EventTurns.t at h
    obtain ⟨⟨s1, s2⟩, hs, h⟩ := Option.bind_eq_some_iff.mp h
    by_cases hc : s2 = 0 ∧ s1 = false
    rotate_left
    · rw [if_neg hc] at h; simp at h
    rw [if_pos hc] at h
    obtain ⟨rfl, rfl⟩ := hc
    have e1 : (l0.take (l0.length - 1)).length = l0.length - 1 := by rw [List.length_take]; omega
    have hC := Kd.C_below hr0 hW
    have := event_Same.calls (some d1) c0 l0 (some d1) c0 (l0.take (l0.length - 1)) false 0 W hC hc0 (Kd.C_take hC (by omega)) (by omega) hs
    rw [e1] at this
    exact ⟨by simpa using h.symm, this⟩
  by_cases hth : (J67 l0 (i : Int)).f0 = (J67 l0 ((i : Int) + 1)).f0
  · rw [if_pos hth] at h6
    have ht := Aside0.mk h6
    clear h6
    go_wp2
    go_region
    go_wp2_with (go_at_call 36; obtain ⟨hr, hS⟩ := tail w9.drew ht.out (below_drew1 HB9'.out); subst hr; (with_reducible refine hS.mono ?_); rintro e w10 ⟨rfl, hb⟩; have HB10 := Aside0.mk (below_step (below_drew1 HB9'.out) hb); clear hb hS)
    go_ret
    exact ⟨rfl, HB10.out⟩
  · rw [if_neg hth] at h6
    obtain ⟨⟨s1, s2⟩, hs, h7⟩ := Option.bind_eq_some_iff.mp h6
    clear h6
    by_cases hc : s2 = 0 ∧ s1 = true
    rotate_left
    · rw [if_neg hc] at h7; simp at h7
    rw [if_pos hc] at h7
    obtain ⟨rfl, rfl⟩ := hc
    have ht := Aside0.mk h7
    have HSW := Aside0.mk hs
    clear h7 hs
    have hS := event_Same.calls (some d1) c0 l0 (some ⟨g, 0, none⟩) cg (swapL l i) true 0 w9.drew (Kd.C_below hr0 (below_drew1 HB9'.out)) hc0 (Kd.C_below HT.out (below_drew1 (Below.refl _ _))) hcg HSW.out
    rw [hlT] at hS
    have HS2 := Aside0.mk hS
    clear hS
    go_wp2
    go_region
    go_wp2_with (first
      | (go_at_call 36; (with_reducible refine HS2.out.mono ?_); rintro e w10 ⟨rfl, hb⟩; have HB10 := Aside0.mk (below_step (below_drew1 HB9'.out) hb); clear hb)
      | (go_at_call 36; obtain ⟨hr, hS⟩ := tail _ ht.out HB10.out; subst hr; (with_reducible refine hS.mono ?_); rintro e w11 ⟨rfl, hb⟩; have HB11 := Aside0.mk (below_step HB10.out hb); clear hb hS))
    go_ret
    exact ⟨rfl, HB11.out⟩
end Go.Proofs.Ytagdkmcgepidoaa.P
