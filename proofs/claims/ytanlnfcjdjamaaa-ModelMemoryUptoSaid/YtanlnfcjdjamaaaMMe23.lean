/- P.modelMemory_holds, part 24 of 37: the contracts of the Go functions that the law calls, its own walk, and its plain law, for every input that the statement speaks of. -/
import Derived.Test.YtanlnfcjdjamaaaMMe22
import Derived.Test.YtanlnfcjdjamaaaMMe2
set_option linter.unusedVariables false
set_option linter.unusedSimpArgs false
/- E16 -/
namespace Go.Proofs.Ytanlnfcjdjamaaa.P
open Go.RowKit Go.Proofs.YtanlnfcjdjamaaaW.PrintWords Go.Proofs.YtanlnfcjdjamaaaW.PrintLast Go.Proofs.YtanlnfcjdjamaaaW.PrintMore
def blk (k i : Nat) (l : List S51) : List S51 := (l.drop (i * k)).take k
structure Blk (k : Nat) (l D : List S51) : Prop where
  len : D.length = l.length
  st : ∀ i, Sym.St ky (blk k i l) (blk k i D)
structure Ph (k : Nat) (l D cur : List S51) (q : Nat) : Prop where
  len : cur.length = l.length
  lenD : D.length = l.length
  done : ∀ i, i < q → Sym.St ky (blk k i l) (blk k i cur)
  rest : cur.drop (q * k) = D.drop (q * k)
theorem ph_start (k : Nat) {l D : List S51} (h : D.length = l.length) : Ph k l D D 0 := ⟨h, h, fun i hi => absurd hi (Nat.not_lt_zero _), rfl⟩
theorem blk_len (k i : Nat) (l : List S51) : (blk k i l).length = min k (l.length - i * k) := by unfold blk; rw [List.length_take, List.length_drop]
theorem ph_step {k q : Nat} {l D cur cur' M' T : List S51} (h : Ph k l D cur q) (hk : 0 < k) (hq : q * k ≤ l.length) (hT : T = D.drop ((q + 1) * k)) (hc : cur' = cur.take (q * k) ++ M' ++ T) (hM : Sym.St ky (blk k q l) M') : Ph k l D cur' (q + 1) := by
  have hml := hM.len
  rw [blk_len] at hml
  have htl : T.length = l.length - (q + 1) * k := by rw [hT, List.length_drop, h.lenD]
  have e1 : (q + 1) * k = q * k + k := by rw [Nat.add_mul, Nat.one_mul]
  have hpl : (cur.take (q * k)).length = q * k := by rw [List.length_take, h.len]; omega
  have hcase : M'.length = k ∨ T = [] := by
    by_cases h0 : k ≤ l.length - q * k
    · exact .inl (by omega)
    · exact .inr (List.eq_nil_of_length_eq_zero (by omega))
  have hd : cur'.drop (q * k) = M' ++ T := by rw [hc, List.append_assoc, List.drop_append_of_le_length (by omega), List.drop_of_length_le (by omega), List.nil_append]
  refine ⟨?_, h.lenD, fun i hi => ?_, ?_⟩
  · rw [hc, List.length_append, List.length_append, hpl]; omega
  · by_cases hiq : i < q
    · have hle : i * k + k ≤ q * k := by
        have : (i + 1) * k ≤ q * k := Nat.mul_le_mul_right _ hiq
        rw [Nat.add_mul, Nat.one_mul] at this
        exact this
      have : blk k i cur' = blk k i cur := by
        unfold blk
        have h1 : cur'.take (q * k) = cur.take (q * k) := by rw [hc, List.append_assoc, List.take_append_of_le_length (by omega), List.take_take, Nat.min_self]
        have h2 : ∀ c : List S51, (c.drop (i * k)).take k = ((c.take (q * k)).drop (i * k)).take k := by
          intro c
          rw [List.drop_take, List.take_take, Nat.min_eq_left (by omega)]
        rw [h2 cur', h1, ← h2 cur]
      rw [this]
      exact h.done i hiq
    · obtain rfl : i = q := by omega
      have : blk k i cur' = M' := by
        unfold blk
        rw [hd]
        rcases hcase with h0 | h0
        · rw [List.take_append_of_le_length (by omega), List.take_of_length_le (by omega)]
        · rw [h0, List.append_nil, List.take_of_length_le (by omega)]
      rw [this]
      exact hM
  · rw [e1, ← List.drop_drop, hd, ← e1, ← hT]
    rcases hcase with h0 | h0
    · rw [List.drop_append_of_le_length (by omega), List.drop_of_length_le (by omega), List.nil_append]
    · rw [h0, List.append_nil, List.drop_of_length_le (by omega)]
theorem ph_end {k q : Nat} {l D cur : List S51} (h : Ph k l D cur q) (hq : l.length ≤ q * k) : Blk k l cur := by
  refine ⟨h.len, fun i => ?_⟩
  by_cases hi : i < q
  · exact h.done i hi
  · have hle : q * k ≤ i * k := Nat.mul_le_mul_right _ (by omega)
    have e1 : blk k i l = [] := List.eq_nil_of_length_eq_zero (by rw [blk_len]; omega)
    have e2 : blk k i cur = [] := List.eq_nil_of_length_eq_zero (by rw [blk_len, h.len]; omega)
    rw [e1, e2]
    exact Sym.St.nil ky
theorem blk_end {k : Nat} {l D : List S51} (h : Blk k l D) (hk : l.length ≤ k) : Sym.St ky l D := by
  have := h.st 0
  unfold blk at this
  rw [Nat.zero_mul, List.drop_zero, List.drop_zero, List.take_of_length_le hk, List.take_of_length_le (by rw [h.len]; exact hk)] at this
  exact this
theorem blk_two (k q : Nat) (l : List S51) : blk (2 * k) q l = blk k (2 * q) l ++ blk k (2 * q + 1) l := by
  unfold blk
  rw [show q * (2 * k) = 2 * q * k by rw [Nat.mul_comm 2 k, ← Nat.mul_assoc, Nat.mul_comm (q * k) 2, Nat.mul_assoc], show (2 * q + 1) * k = 2 * q * k + k by rw [Nat.add_mul, Nat.one_mul], ← List.drop_drop, Nat.two_mul, List.take_add]
set_option maxHeartbeats 8000000 in
set_option maxRecDepth 100000 in
theorem stable_calls (l : List S51) (A : Option Addr) (N c : Nat) (base : Nat) (ok : Nat → Prop) (w : World) (h : Kd.R k51 51 w base ok (.slice A N c) l) (hN : N < 1000000000) :
    Calls Try.prog 53 #[.slice A N c, .int .i64 (N : Nat), .func (.func 43) #[] #[]] w fun e w' => e = .returned (.tuple #[]) ∧ (∃ l', Sym.St ky l l' ∧ Kd.R k51 51 w' base ok (.slice A N c) l') ∧ Chg w w' ok := by
  have hlen := (Kd.R_reads' h).1
  have H0 := Aside0.mk h
  have HL := Aside0.mk hlen
  clear h hlen
  go_enter Try.func53, Try.ntmps53
  go_wp2
  go_loopw [7, 8] (fun v7 v8 W => ∃ (q a b : Nat) (cur : List S51), v7 = .int .i64 (a : Int) ∧ v8 = .int .i64 (b : Int) ∧ Aside0 (a = q * 20 ∧ b = a + 20 ∧ a ≤ N) ∧ Aside0 (Ph 20 l l cur q) ∧ Aside0 (Kd.R k51 51 W base ok (.slice A N c) cur) ∧ Aside0 (Chg w W ok)) (fun _ v8 _ => N + 20 - (intOf v8).toNat)
  case atStart => exact ⟨0, 0, 20, l, rfl, rfl, ⟨by omega, rfl, Nat.zero_le _⟩, ⟨ph_start 20 rfl⟩, H0, ⟨Chg.refl _ _⟩⟩
  case round =>
    clear H0
    obtain ⟨q, a, b, cur, rfl, rfl, HE, HP, HR, HC⟩ := hrel
    obtain ⟨ha, hb, haN⟩ := HE.out
    have hlen := HL.out
    have hcl := HP.out.len
    have hsplit : cur = cur.take a ++ (cur.drop a).take 20 ++ cur.drop (a + 20) := by rw [← List.drop_drop, List.append_assoc, List.take_append_drop, List.take_append_drop]
    have hdr : cur.drop a = l.drop a := by rw [ha]; exact HP.out.rest
    by_cases hlt : b ≤ N
    · have hI := insertion_calls (cur.take a) ((cur.drop a).take 20) (cur.drop (a + 20)) A N c base ok wr (by rw [← hsplit]; exact HR.out) hN (a : Int) (b : Int) (by simp only [List.length_take, List.length_drop]; omega) (by simp only [List.length_take, List.length_drop]; omega)
      have HI := Aside0.mk hI
      have e1 : IntKind.i64.wrap ((b : Int) + 20) = ((b + 20 : Nat) : Int) := by rw [show (b : Int) + 20 = ((b + 20 : Nat) : Int) by omega]; exact wrapN (by omega)
      have HD := Aside0.mk (And.intro hdr (And.intro hsplit hcl))
      clear hI ha hb haN hlen hcl hsplit hdr
      go_wp2_with (go_at_call 59; (with_reducible refine HI.out.mono ?_); rintro e w2 ⟨rfl, ⟨M', hst, hR2⟩, hC2⟩; have HST := Aside0.mk hst; have HR2 := Aside0.mk hR2; have HC2 := Aside0.mk (HC.out.trans hC2); clear hst hR2 hC2)
      go_roundw
      case rel =>
        obtain ⟨ha, hb, haN⟩ := HE.out
        obtain ⟨hdr, hsplit, hcl⟩ := HD.out
        have hlen := HL.out
        exact ⟨q + 1, b, b + 20, _, rfl, by go_num, ⟨by omega, rfl, hlt⟩, ⟨ph_step (M' := M') (T := cur.drop (a + 20)) HP.out (by omega) (by omega) (by rw [show (q + 1) * 20 = a + 20 by omega]; rw [← List.drop_drop, hdr, List.drop_drop]) (by rw [← ha]) (by have h1 := HST.out; rw [hdr] at h1; unfold blk; rw [← ha]; exact h1)⟩, HR2, HC2⟩
      case measure => simp [intOf]; omega
    · have hI := insertion_calls (cur.take a) (cur.drop a) [] A N c base ok wr (by rw [List.append_nil, List.take_append_drop]; exact HR.out) hN (a : Int) (N : Int) (by simp only [List.length_take, List.length_drop]; omega) (by simp only [List.length_take, List.length_drop]; omega)
      have HI := Aside0.mk hI
      have HD := Aside0.mk (And.intro hdr hcl)
      have HBL := Aside0.mk (And.intro ha (And.intro hb haN))
      clear hI ha hb haN hlen hcl hsplit hdr
      go_wp2_with (go_at_call 59; (with_reducible refine HI.out.mono ?_); rintro e w2 ⟨rfl, ⟨M', hst, hR2⟩, hC2⟩; have HST := Aside0.mk hst; have HR2 := Aside0.mk hR2; have HC2 := Aside0.mk (HC.out.trans hC2); clear hst hR2 hC2)
      have HB : Aside0 (Blk 20 l (cur.take a ++ M' ++ [])) := ⟨by
        obtain ⟨ha, hb, haN⟩ := HBL.out
        obtain ⟨hdr, hcl⟩ := HD.out
        have hlen := HL.out
        exact ph_end (ph_step HP.out (M' := M') (T := []) (by omega) (by omega) (by rw [List.drop_of_length_le (by omega)]) (by rw [← ha]) (by have h1 := HST.out; rw [hdr] at h1; unfold blk; rw [← ha, List.take_of_length_le (by rw [List.length_drop]; omega)]; exact h1)) (by omega)⟩
      generalize cur.take a ++ M' ++ [] = D0 at HB HR2
      clear HD HBL HI HST HR HC HP HE hlt
      go_loopw [6, 7, 8, 9] (fun v6 v7 v8 v9 W => ∃ (k : Nat) (D : List S51), v6 = .int .i64 (k : Int) ∧ Aside0 (0 < k ∧ k < 4000000000) ∧ Aside0 (Blk k l D) ∧ Aside0 (Kd.R k51 51 W base ok (.slice A N c) D) ∧ Aside0 (Chg w W ok)) (fun v6 _ _ _ _ => N - (intOf v6).toNat)
      case atStart => exact ⟨20, D0, rfl, ⟨by omega⟩, HB, HR2, HC2⟩
      case round =>
        clear HB HR2 HC2
        obtain ⟨k, D, rfl, HK, HB, HR, HC⟩ := hrel
        obtain ⟨hk0, hk9⟩ := HK.out
        by_cases hlt : k < N
        · obtain ⟨k2, hk2⟩ : ∃ k2, k2 = 2 * k := ⟨_, rfl⟩
          have e1 : IntKind.i64.wrap (2 * (k : Int)) = (k2 : Int) := by rw [show 2 * (k : Int) = (k2 : Int) by omega]; exact wrapN (by omega)
          have HK2 := Aside0.mk hk2
          clear hk2
          go_wp2
          go_loopw [7, 8] (fun v7 v8 W => ∃ (q a b : Nat) (cur : List S51), v7 = .int .i64 (a : Int) ∧ v8 = .int .i64 (b : Int) ∧ Aside0 (a = q * (2 * k) ∧ b = a + 2 * k ∧ a ≤ N) ∧ Aside0 (Ph (2 * k) l D cur q) ∧ Aside0 (Kd.R k51 51 W base ok (.slice A N c) cur) ∧ Aside0 (Chg w W ok)) (fun _ v8 _ => N + 2 * k - (intOf v8).toNat)
          case atStart => exact ⟨0, 0, k2, D, rfl, rfl, ⟨by omega, by rw [HK2.out]; omega, Nat.zero_le _⟩, ⟨ph_start (2 * k) HB.out.len⟩, HR, HC⟩
          case round =>
            clear HR HC
            obtain ⟨q, a, b, cur, rfl, rfl, HE, HP, HR, HC⟩ := hrel
            obtain ⟨ha, hb, haN⟩ := HE.out
            have hlen := HL.out
            have hcl := HP.out.len
            have hdr : cur.drop a = D.drop a := by rw [ha]; exact HP.out.rest
            have hk2 := HK2.out
            have hqa : 2 * q * k = a := by rw [ha, Nat.mul_comm 2 k, ← Nat.mul_assoc, Nat.mul_comm (q * k) 2, Nat.mul_assoc]
            have hqa1 : (2 * q + 1) * k = a + k := by rw [Nat.add_mul, Nat.one_mul, hqa]
            obtain ⟨m, hm⟩ : ∃ m, m = a + k := ⟨_, rfl⟩
            have e2 : IntKind.i64.wrap ((a : Int) + (k : Int)) = (m : Int) := by rw [wrapA (by omega)]; omega
            have e3 : IntKind.i64.wrap ((b : Int) + (k2 : Int)) = ((b + k2 : Nat) : Int) := wrapA (by omega)
            have sX := HB.out.st (2 * q)
            have sY := HB.out.st (2 * q + 1)
            unfold blk at sX sY
            rw [hqa] at sX
            rw [hqa1, ← hm] at sY
            have hDl := HB.out.len
            by_cases hbN : b ≤ N
            · have hdm : (D.drop a).drop k = D.drop m := by rw [List.drop_drop, hm]
              have hdb : (D.drop m).drop k = D.drop b := by rw [List.drop_drop]; congr 1; omega
              have hsplit : cur = cur.take a ++ (D.drop a).take k ++ (D.drop m).take k ++ D.drop b := by
                rw [← hdb, List.append_assoc, List.append_assoc, List.take_append_drop, ← hdm, List.take_append_drop, ← hdr, List.take_append_drop]
              have hS := symMerge_calls N (cur.take a) ((D.drop a).take k) ((D.drop m).take k) (D.drop b) (by simp only [List.length_take, List.length_drop]; omega) (by simp only [List.length_take, List.length_drop]; omega) (by simp only [List.length_take, List.length_drop]; omega) sX.srt sY.srt A N c base ok wr (by rw [← hsplit]; exact HR.out) hN a m b (by simp only [List.length_take, List.length_drop]; omega) (by simp only [List.length_take, List.length_drop]; omega) (by simp only [List.length_take, List.length_drop]; omega)
              have HS := Aside0.mk hS
              have HPN : Aside0 (Ph (2 * k) l D (cur.take a ++ Sym.mrg ky ((D.drop a).take k) ((D.drop m).take k) ++ D.drop b) (q + 1)) := ⟨ph_step (M' := Sym.mrg ky ((D.drop a).take k) ((D.drop m).take k)) (T := D.drop b) HP.out (by omega) (by omega) (by congr 1; rw [Nat.add_mul]; omega) (by rw [← ha]) (by rw [blk_two]; unfold blk; rw [hqa, hqa1, ← hm]; exact Sym.St.mrg ky sX sY)⟩
              have HB2 := Aside0.mk (And.intro (show b = (q + 1) * (2 * k) by rw [Nat.add_mul]; omega) (And.intro hbN hk2))
              clear ha hb haN hlen hcl hdr hk2 hqa hqa1 hm sX sY hDl hdm hdb hsplit hS
              go_wp2_with (go_at_call 60; (with_reducible refine HS.out.mono ?_); rintro e w2 ⟨rfl, hR2, hC2⟩; have HR2 := Aside0.mk hR2; have HC2 := Aside0.mk (HC.out.trans hC2); clear hR2 hC2)
              go_roundw
              case rel => exact ⟨q + 1, b, b + k2, _, rfl, by go_num, ⟨HB2.out.1, by rw [HB2.out.2.2], HB2.out.2.1⟩, HPN, HR2, HC2⟩
              case measure => have := HB2.out.2.1; have := HK2.out; have := HK.out; simp [intOf]; omega
            · have e4 : IntKind.i64.wrap ((k : Int) * 2) = (k2 : Int) := by rw [show (k : Int) * 2 = (k2 : Int) by omega]; exact wrapN (by omega)
              have hcut : blk (2 * k) q l = l.drop a := by unfold blk; rw [← ha, List.take_of_length_le (by rw [List.length_drop]; omega)]
              by_cases hmN : m < N
              · have hdm : (D.drop a).drop k = D.drop m := by rw [List.drop_drop, hm]
                have hsplit : cur = cur.take a ++ (D.drop a).take k ++ D.drop m ++ [] := by
                  rw [List.append_nil, List.append_assoc, ← hdm, List.take_append_drop, ← hdr, List.take_append_drop]
                have hYt : (D.drop m).take k = D.drop m := List.take_of_length_le (by rw [List.length_drop]; omega)
                have hYl : (l.drop m).take k = l.drop m := List.take_of_length_le (by rw [List.length_drop]; omega)
                rw [hYt, hYl] at sY
                have hS := symMerge_calls N (cur.take a) ((D.drop a).take k) (D.drop m) [] (by simp only [List.length_take, List.length_drop]; omega) (by simp only [List.length_take, List.length_drop]; omega) (by simp only [List.length_take, List.length_drop]; omega) sX.srt sY.srt A N c base ok wr (by rw [← hsplit]; exact HR.out) hN a m N (by simp only [List.length_take, List.length_drop]; omega) (by simp only [List.length_take, List.length_drop]; omega) (by simp only [List.length_take, List.length_drop]; omega)
                have HS := Aside0.mk hS
                have HPN : Aside0 (Blk (2 * k) l (cur.take a ++ Sym.mrg ky ((D.drop a).take k) (D.drop m) ++ [])) := ⟨ph_end (ph_step (M' := Sym.mrg ky ((D.drop a).take k) (D.drop m)) (T := []) HP.out (by omega) (by omega) (by rw [List.drop_of_length_le (by rw [Nat.add_mul]; omega)]) (by rw [← ha]) (by rw [blk_two]; unfold blk; rw [hqa, hqa1, ← hm, hYl]; exact Sym.St.mrg ky sX sY)) (by rw [Nat.add_mul]; omega)⟩
                clear ha hb haN hlen hcl hdr hk2 hqa hqa1 hm sX sY hDl hdm hsplit hS hcut hYt hYl
                go_wp2_with (go_at_call 60; (with_reducible refine HS.out.mono ?_); rintro e w2 ⟨rfl, hR2, hC2⟩; have HR2 := Aside0.mk hR2; have HC2 := Aside0.mk (HC.out.trans hC2); clear hR2 hC2)
                go_roundw
                case rel => exact ⟨k2, _, rfl, ⟨by have := HK2.out; omega⟩, ⟨by rw [HK2.out]; exact HPN.out⟩, HR2, HC2⟩
                case measure => have := HK2.out; simp [intOf]; omega
              · have HPN : Aside0 (Blk (2 * k) l (cur.take a ++ D.drop a ++ [])) := ⟨ph_end (ph_step HP.out (M' := D.drop a) (T := []) (by omega) (by omega) (by rw [List.drop_of_length_le (by rw [Nat.add_mul]; omega)]) (by rw [← ha]) (by
                    rw [hcut]
                    rw [List.take_of_length_le (by rw [List.length_drop]; omega), List.take_of_length_le (by rw [List.length_drop]; omega)] at sX
                    exact sX)) (by rw [Nat.add_mul]; omega)⟩
                have HRN : Aside0 (Kd.R k51 51 wr base ok (.slice A N c) (cur.take a ++ D.drop a ++ [])) := ⟨by rw [← hdr, List.append_nil, List.take_append_drop]; exact HR.out⟩
                clear ha hb haN hlen hcl hdr hk2 hqa hqa1 hm sX sY hDl hcut
                go_wp2
                go_roundw
                case rel => exact ⟨k2, _, rfl, ⟨by have := HK2.out; omega⟩, ⟨by rw [HK2.out]; exact HPN.out⟩, HRN, HC⟩
                case measure => have := HK2.out; simp [intOf]; omega
        · go_wp2
          (try simp only [Exit.inBlock, Exit.then])
          refine bodyPost_end (results_none rfl _ _ _) rfl ?_
          exact ⟨rfl, ⟨D, blk_end HB.out (by have := HL.out; omega), HR.out⟩, HC.out⟩
set_option maxHeartbeats 4000000 in
set_option maxRecDepth 100000 in
theorem sortStable_calls (l : List S51) (A : Option Addr) (N c : Nat) (base : Nat) (ok : Nat → Prop) (w : World) (h : Kd.R k51 51 w base ok (.slice A N c) l) (hN : N < 1000000000) :
    Calls Try.prog 42 #[.slice A N c, .func (.func 43) #[] #[]] w fun e w' => e = .returned (.tuple #[]) ∧ (∃ l', Sym.St ky l l' ∧ Kd.R k51 51 w' base ok (.slice A N c) l') ∧ Chg w w' ok := by
  have HS := Aside0.mk (stable_calls l A N c base ok w h hN)
  clear h
  go_enter Try.func42, Try.ntmps42
  go_wp2_with (go_at_call 53; (with_reducible refine HS.out.mono ?_); rintro e w2 ⟨rfl, hR2, hC2⟩; have HR2 := Aside0.mk hR2; have HC2 := Aside0.mk hC2; clear hR2 hC2)
  refine bodyPost_end (results_none rfl _ _ _) rfl ?_
  exact ⟨rfl, HR2.out, HC2.out⟩
end Go.Proofs.Ytanlnfcjdjamaaa.P
