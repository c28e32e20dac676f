/- P.eventApart_holds, part 6 of 41: the contracts of the Go functions that the law calls, its own walk, and its plain law, for every input that the statement speaks of. -/
import Derived.Test.YtagdkmcgepidoaaMAp2
import Derived.Test.YtagdkmcgepidoaaMAp4
import Derived.Test.YtagdkmcgepidoaaMAp1
import Derived.Test.YtagdkmcgepidoaaMAp3
set_option linter.unusedVariables false
set_option linter.unusedSimpArgs false
/- F42 -/
namespace Go.Proofs.Ytagdkmcgepidoaa.P
open Go.RowKit Go.Proofs.YtagdkmcgepidoaaW.PrintWords Go.Proofs.YtagdkmcgepidoaaW.PrintLast Go.Proofs.YtagdkmcgepidoaaW.PrintMore
attribute [local go_sem] max2_int min2_int max_two min_two max_three min_three max_four min_four   -- for this text's walks alone
set_option linter.unusedVariables false
set_option linter.unusedSimpArgs false
mutual
def larchref05_kept.l0 : Nat → List (S67) → List Bool → List (S76) → List Bool → Int → Option ((List (S67)))
 | 0, _, _, _, _, _ => none
 | k + 1, x0, x1, x5, x6, x7 => if x7 < (x5.length : Int) then (if 0 ≤ x7 then (if x7 < (x1.length : Int) then (if rdOf false x1 x7 = true then (if 0 ≤ ((J76 x5 x7).f3) then (if ((J76 x5 x7).f3) < (x6.length : Int) then ((some (x6.set (((J76 x5 x7).f3) : Int).toNat true : List Bool)).bind fun y297 => (if ((J76 x5 x7).f4) = (-1) then (larchref05_kept.l0 k x0 x1 x5 y297 (wrap64 (x7 + 1))) else (if 0 ≤ ((J76 x5 x7).f4) then (if ((J76 x5 x7).f4) < (x6.length : Int) then (larchref05_kept.l0 k x0 x1 x5 (y297.set (((J76 x5 x7).f4) : Int).toNat true) (wrap64 (x7 + 1))) else (none)) else (none)))) else (none)) else (none)) else (larchref05_kept.l0 k x0 x1 x5 x6 (wrap64 (x7 + 1)))) else (none)) else (none)) else (larchref05_kept.l1 k x0 x6 ([] : List (S67)) 0)
def larchref05_kept.l1 : Nat → List (S67) → List Bool → List (S67) → Int → Option ((List (S67)))
 | 0, _, _, _, _ => none
 | k + 1, x0, x6, x8, x9 => if x9 < (x0.length : Int) then (if 0 ≤ x9 then (if x9 < (x6.length : Int) then (if rdOf false x6 x9 = true then (if x8.length < 1466015503701 then (larchref05_kept.l1 k x0 x6 (x8 ++ [(⟨(J67 x0 x9).f0, (J67 x0 x9).f1, (⟨(J67 x0 x9).f2.f0, (J67 x0 x9).f2.f1, (J67 x0 x9).f2.f2, (J67 x0 x9).f2.f3⟩ : S33), (⟨(J67 x0 x9).f3.f0, (J67 x0 x9).f3.f1, (J67 x0 x9).f3.f2, (J67 x0 x9).f3.f3⟩ : S36)⟩ : S67)]) (wrap64 (x9 + 1))) else (none)) else (larchref05_kept.l1 k x0 x6 x8 (wrap64 (x9 + 1)))) else (none)) else (none)) else ((larchref05_CopyEvents.f k x8).bind fun t308 => (some t308))
end
def larchref05_kept.f (k : Nat) (l0 : List (S67)) (l1 : List Bool) : Option ((List (S67))) := (larchref05_calls.f k l0).bind fun t289 => (if 0 ≤ (l0.length : Int) then (if ((l0.length : Int) : Int).toNat ≤ 281474976710656 then (larchref05_kept.l0 k l0 l1 t289 (List.replicate ((l0.length : Int) : Int).toNat false) 0) else (none)) else (none))
set_option maxHeartbeats 8000000 in
set_option maxRecDepth 100000 in
theorem larchref05_kept.calls (k : Nat) (P0_ : Nat → Prop) (A0 : Option Addr) (c0 : Nat) (l0 : List (S67)) (A1 : Option Addr) (c1 : Nat) (l1 : List Bool) (r : List (S67)) (w : World) (hs0 : Kd.V k67 67 w w.heap.size (fun k_ => P0_ k_) (.slice A0 l0.length c0) l0) (hr1 : Kd.C Kd.bool w A1 l1.length l1) (hc1 : l1.length ≤ c1) (h : larchref05_kept.f k l0 l1 = some r) :
  Calls Try.prog 56 #[.slice A0 l0.length c0, .slice A1 l1.length c1] w fun e w' => ∃ v0_ : Value, e = .returned (v0_) ∧ Kd.N k67 67 w' w.heap.size (fun k_ => (P0_ k_ ∨ w.heap.size ≤ k_)) v0_ r ∧ Below w.heap.size w w' := by
 have hu67 := Try.underlying67
 have HO0 := asd (show Kd.V k67 67 w w.heap.size (fun k_ => (P0_ k_ ∨ w.heap.size ≤ k_)) (.slice A0 l0.length c0) l0 from Kd.V_mono hs0 (fun k_ hk => .inl hk))
 have HR1 := asd hr1
 have HC1 := asd hc1
 clear hr1 hc1
 have HB := asd (Below.refl w.heap.size w)
 have H : ((larchref05_calls.f k l0).bind fun t289 => (if 0 ≤ (l0.length : Int) then (if ((l0.length : Int) : Int).toNat ≤ 281474976710656 then (larchref05_kept.l0 k l0 l1 t289 (List.replicate ((l0.length : Int) : Int).toNat false) 0) else (none)) else (none))) = some r := h
 clear h
 replace H := Option.bind_eq_some_iff.mp H
 obtain ⟨t289, A30, H⟩ := H
 replace H : (if 0 ≤ (l0.length : Int) then (if ((l0.length : Int) : Int).toNat ≤ 281474976710656 then (larchref05_kept.l0 k l0 l1 t289 (List.replicate ((l0.length : Int) : Int).toNat false) 0) else (none)) else (none)) = some r := H
 have A3 := asd A30
 clear A30
 by_cases c4 : 0 ≤ (l0.length : Int)
 ·
  rw [if_pos c4] at H
  have c4b0 := eq_true c4
  have c4b1 : decide (0 ≤ (l0.length : Int)) = true := decide_eq_true c4
  clear c4
  by_cases c5 : ((l0.length : Int) : Int).toNat ≤ 281474976710656
  ·
   rw [if_pos c5] at H
   have c5b0 := eq_true c5
   have c5b1 : decide (((l0.length : Int) : Int).toNat ≤ 281474976710656) = true := decide_eq_true c5
   clear c5
   obtain ⟨y292, hy292⟩ : ∃ y_ : List Bool, y_ = (List.replicate ((l0.length : Int) : Int).toNat false) := ⟨_, rfl⟩
   replace H : (larchref05_kept.l0 k l0 l1 t289 y292 0) = some r := by first | (rw [hy292]; with_reducible exact H) | (have H2_ := (Option.bind_some _ _).symm.trans H; rw [hy292]; with_reducible exact H2_) | (have H2_ := (Option.bind_some _ _).symm.trans H; with_reducible exact H2_) | with_reducible exact H | (rw [hy292]; exact H) | exact H
   have Ny292 := asd hy292
   clear hy292
   have H' := asd H
   clear H
   go_enter Try.func56, Try.ntmps56
   go_wp2_with (first | ((with_reducible refine gate_callee (f := 64) rfl ?_); refine goesL_ (some 11) rfl rfl Try.func64 (by kernel_rfl) rfl #[.slice A0 l0.length c0] rfl ags ?_; (with_reducible refine (larchref05_calls.calls k _ _ l0 t289 _ ?side1 ?side2 A3.out).mono ?_); (case side1 => exact skC (Kd.V_reads' HO0.out).2.2); (case side2 => exact (Kd.V_reads' HO0.out).2.1); rintro e w6 ⟨v290, rfl, ho0, hb⟩; refine ⟨_, rfl, ?_⟩; have n0_ := asd (Kd.V_elder' (by (with_reducible repeat (first | apply Kd.V_alloc | apply Kd.V_drewN | apply Kd.V_drew)); exact HO0.out) (Kd.S_base ho0) hb); have n1_ := asd (Kd.N_lower (Kd.N_mono (ok' := fun k_ => (P0_ k_ ∨ w.heap.size ≤ k_)) (Kd.S_N (Kd.S_bound ho0)) (fun k_ hk_ => (.inr (Nat.le_trans (below_size (skB HB.out)) hk_.2.1)))) (below_size (skB HB.out))); have n2_ := asd (below_step (skB HB.out) hb); clear HO0; clear HB; have HO0 := n0_; have HO291 := n1_; have HB := n2_; clear n0_ n1_ n2_; (try clear hb); (try clear hb2); (try clear hk); (try clear hi); (try clear ho0)) | ((with_reducible refine gate_dst (N := 14) rfl ?_); refine Kd.R_make Kd.bool _ 4 rfl (N := 14) rfl 31 _ _ rfl (l0.length : Int) rfl rfl Try.underlying31 (.bool false) 1 info4 rfl (by decide) (by omega) false (ok := fun _ => True) (okp := fun _ => True) rfl (fun _ hk => hk) trivial dt (Nat.le_trans (Nat.mul_le_mul_right _ (dt : (l0.length : Int).toNat ≤ 281474976710656)) (by omega)) (Below.refl _ _) (Nat.le_refl _) ?_; intro v293 w7 ho8 hb hg_ hnew_; clear hg_ hnew_; (first | rw [← Ny292.out] at ho8 | (simp only [Int.reduceToNat] at ho8; rw [← Ny292.out] at ho8)); have n0_ := asd (Kd.V_elder' (by (with_reducible repeat (first | apply Kd.V_alloc | apply Kd.V_drewN | apply Kd.V_drew)); exact HO0.out) (Kd.R_base ho8) hb); have n1_ := asd (Kd.N_elder' (by (with_reducible repeat (first | apply Kd.N_alloc | apply Kd.N_drewN | apply Kd.N_drew)); exact HO291.out) (Kd.R_base ho8) hb); have n2_ := asd (Kd.R_lower (Kd.R_newM (M := fun k_ => (w.heap.size ≤ k_)) ho8 (below_size (skB HB.out)) (fun k_ h_ => h_)) (below_size (skB HB.out))); have n3_ := asd (below_step (skB HB.out) hb); clear HO0; clear HO291; clear HB; have HO0 := n0_; have HO291 := n1_; have HO294 := n2_; have HB := n3_; clear n0_ n1_ n2_ n3_; clear hb ho8))
   go_loopg [7] k (fun kq v7 w' => ∃ (x6_1 : List Bool) (x7_1 : Int), v7 = .int .i64 x7_1 ∧ Aside0 (larchref05_kept.l0 kq l0 l1 t289 x6_1 x7_1 = some r) ∧ Aside0 (kq ≤ k) ∧ Aside0 (Kd.V k67 67 w' w.heap.size (fun k_ => (P0_ k_ ∨ w.heap.size ≤ k_) ∧ some k_ ≠ (v290 : Value).ownBlock ∧ some k_ ≠ (v293 : Value).ownBlock) (.slice A0 l0.length c0) l0) ∧ Aside0 (Kd.N k76 76 w' w.heap.size (fun k_ => (P0_ k_ ∨ w.heap.size ≤ k_) ∧ some k_ ≠ (v293 : Value).ownBlock) v290 t289) ∧ Aside0 (Kd.R Kd.bool 4 w' w.heap.size (fun k_ => (w.heap.size ≤ k_)) v293 x6_1) ∧ Aside0 (Below w.heap.size w w'))
   case atStart => exact ⟨(y292), (0), rs, H', ⟨Nat.le_refl _⟩, ⟨by (with_reducible repeat (first | apply Kd.V_alloc | apply Kd.V_drewN | apply Kd.V_drew)); exact Kd.V_mono HO0.out (fun _ hk => ⟨hk.1.1, ⟨hk.1.2, hk.2⟩⟩)⟩, ⟨by (with_reducible repeat (first | apply Kd.N_alloc | apply Kd.N_drewN | apply Kd.N_drew)); exact HO291.out⟩, ⟨skR (Kd.R_mono HO294.out (fun _ hk => hk.1))⟩, ⟨skB HB.out⟩⟩
   case round =>
    clear H'
    try clear c1
    try clear p2
    try clear c4
    try clear c4b0
    try clear c4b1
    try clear c5
    try clear c5b0
    try clear c5b1
    try clear c6
    obtain ⟨x6_1, x7_1, rfl, HA, HK1, HO_0, HO_5, HO_6, HB⟩ := hrel
    cases gk with
    | zero => exact absurd HA.out (by simp [larchref05_kept.l0])
    | succ k1 =>
     have H := HA.out
     clear HA
     simp only [larchref05_kept.l0] at H
     by_cases c9 : x7_1 < (t289.length : Int)
     ·
      rw [if_pos c9] at H
      have c9b0 : decide (x7_1 < (t289.length : Int)) = true := decide_eq_true c9
      clear c9
      by_cases c10 : 0 ≤ x7_1
      ·
       rw [if_pos c10] at H
       have c10b0 : decide (0 ≤ x7_1) = true := decide_eq_true c10
       clear c10
       by_cases c11 : x7_1 < (l1.length : Int)
       ·
        rw [if_pos c11] at H
        have c11b0 : decide (x7_1 < (l1.length : Int)) = true := decide_eq_true c11
        clear c11
        obtain ⟨bq12, hbq12⟩ : ∃ b_ : Bool, b_ = (rdOf false l1 x7_1) := ⟨_, rfl⟩
        replace H : (if bq12 = true then (if 0 ≤ ((J76 t289 x7_1).f3) then (if ((J76 t289 x7_1).f3) < (x6_1.length : Int) then ((some (x6_1.set (((J76 t289 x7_1).f3) : Int).toNat true : List Bool)).bind fun y297 => (if ((J76 t289 x7_1).f4) = (-1) then (larchref05_kept.l0 k1 l0 l1 t289 y297 (wrap64 (x7_1 + 1))) else (if 0 ≤ ((J76 t289 x7_1).f4) then (if ((J76 t289 x7_1).f4) < (x6_1.length : Int) then (larchref05_kept.l0 k1 l0 l1 t289 (y297.set (((J76 t289 x7_1).f4) : Int).toNat true) (wrap64 (x7_1 + 1))) else (none)) else (none)))) else (none)) else (none)) else (larchref05_kept.l0 k1 l0 l1 t289 x6_1 (wrap64 (x7_1 + 1)))) = some r := by rw [← hbq12] at H; exact H
        have Nbq12 := asd hbq12
        clear hbq12
        by_cases c13 : bq12 = true
        ·
         subst c13
         have H1 : (if 0 ≤ ((J76 t289 x7_1).f3) then (if ((J76 t289 x7_1).f3) < (x6_1.length : Int) then ((some (x6_1.set (((J76 t289 x7_1).f3) : Int).toNat true : List Bool)).bind fun y297 => (if ((J76 t289 x7_1).f4) = (-1) then (larchref05_kept.l0 k1 l0 l1 t289 y297 (wrap64 (x7_1 + 1))) else (if 0 ≤ ((J76 t289 x7_1).f4) then (if ((J76 t289 x7_1).f4) < (x6_1.length : Int) then (larchref05_kept.l0 k1 l0 l1 t289 (y297.set (((J76 t289 x7_1).f4) : Int).toNat true) (wrap64 (x7_1 + 1))) else (none)) else (none)))) else (none)) else (none)) = some r := by rw [if_pos rfl] at H; exact H
         clear H
         have H := H1
         clear H1
         by_cases c14 : 0 ≤ ((J76 t289 x7_1).f3)
         ·
          rw [if_pos c14] at H
          have c14b0 : decide (0 ≤ ((J76 t289 x7_1).f3)) = true := decide_eq_true c14
          clear c14
          by_cases c15 : ((J76 t289 x7_1).f3) < (x6_1.length : Int)
          ·
           rw [if_pos c15] at H
           have c15b0 : decide (((J76 t289 x7_1).f3) < (x6_1.length : Int)) = true := decide_eq_true c15
           clear c15
           obtain ⟨y297, hy297⟩ : ∃ y_ : List Bool, y_ = (x6_1.set (((J76 t289 x7_1).f3) : Int).toNat true) := ⟨_, rfl⟩
           replace H : (if ((J76 t289 x7_1).f4) = (-1) then (larchref05_kept.l0 k1 l0 l1 t289 y297 (wrap64 (x7_1 + 1))) else (if 0 ≤ ((J76 t289 x7_1).f4) then (if ((J76 t289 x7_1).f4) < (x6_1.length : Int) then (larchref05_kept.l0 k1 l0 l1 t289 (y297.set (((J76 t289 x7_1).f4) : Int).toNat true) (wrap64 (x7_1 + 1))) else (none)) else (none))) = some r := by first | (rw [hy297]; with_reducible exact H) | (have H2_ := (Option.bind_some _ _).symm.trans H; rw [hy297]; with_reducible exact H2_) | (have H2_ := (Option.bind_some _ _).symm.trans H; with_reducible exact H2_) | with_reducible exact H | (rw [hy297]; exact H) | exact H
           have Ny297 := asd hy297
           clear hy297
           by_cases c17 : ((J76 t289 x7_1).f4) = (-1)
           ·
            rw [if_pos c17] at H
            have c17b0 : (((J76 t289 x7_1).f4) == (-1)) = true := beq_iff_eq.mpr c17
            have c17b1 : (((J76 t289 x7_1).f4) != (-1)) = false := bne_eq_false_iff_eq.mpr c17
            clear c17
            have H' := asd H
            clear H
            obtain ⟨Ao18, co18, eo18⟩ := Kd.N_slice HO_5.out
            subst eo18
            have p295 : 0 ≤ (x7_1 : Int) := dt
            have q295 : x7_1 < (l1.length : Int) := dt
            obtain ⟨ad295, e295, hx295_0⟩ := Kd.at_bool HR1.out x7_1 p295 q295
            (try rw [← Nbq12.out] at hx295_0)
            cases e295
            replace hx295_0 := skc HB.out hx295_0
            replace p295 := eq_true p295
            replace q295 := eq_true q295
            have p296 : 0 ≤ (x7_1 : Int) := dt
            have q296 : x7_1 < (t289.length : Int) := dt
            obtain ⟨ad296, A296_8, c296_8, e296, hx296_0, hx296_1, hx296_2, hx296_3, hx296_4, hx296_5, hx296_6, hx296_7, hx296_8, hx296_9, hx296_10, hl296_8, hi296_8⟩ := at_T76 (Kd.N_reads' HO_5.out).2.2 x7_1 p296 q296
            (try rw [← Nbq12.out] at hx296_5)
            cases e296
            obtain ⟨ce296, hce296, hMe296, hcc296⟩ := Kd.N_get HO_5.out z76 x7_1 p296 (by first | exact q296 | exact dt | (have e_ := (Kd.N_reads' HO_5.out).1; omega))
            obtain ⟨ua296_8, uc296_8, rfl, ul296_8, ge296_8⟩ := k76_openF hMe296
            have hv296_8 := hcc296 8 _ rfl
            rw [add_field _ _ 8 (by omega)] at hv296_8
            replace hv296_8 := Option.some.inj (hv296_8.symm.trans hx296_8)
            injection hv296_8 with hva_ hvn_ hvc_
            rw [hva_] at ge296_8
            rw [hvc_] at ul296_8
            have HL296_8 := asd (show Kd.V k70 70 _ w.heap.size _ _ ((J76 t289 x7_1).f2.f3) from Kd.V_mk ul296_8 ge296_8)
            clear hva_ hvn_ hvc_ ge296_8 ul296_8
            clear hcc296 hce296
            have HR296_8 := asd hi296_8
            have HC296_8 := asd hl296_8
            clear hi296_8 hl296_8
            replace p296 := eq_true p296
            replace q296 := eq_true q296
            have p16 : 0 ≤ (((J76 t289 x7_1).f3) : Int) := dt
            have q16 : (((J76 t289 x7_1).f3) : Int) < ((x6_1.length : Int) : Int) := dt
            obtain ⟨go16, co16, eo16, gb16, gl16, cl16, HG16⟩ := Kd.R_form HO_6.out (by omega)
            (first | cases eo16 | (injection eo16 with ea_ en_ ec_; (first | subst ea_ | (injection ea_ with ea_; subst ea_)); subst ec_; clear en_))
            have GB16 := asd gb16
            have GG16 := asd HG16
            clear gb16 gl16 HG16
            obtain ⟨hx16_0, hf16_0⟩ := Kd.R_celln false HO_6.out (((J76 t289 x7_1).f3) : Int) p16 q16
            replace p16 := eq_true p16
            replace q16 := eq_true q16
            have HP19 := Kd.R_putg HO_6.out (((J76 t289 x7_1).f3) : Int) true
            go_wp2_with (first | ((with_reducible refine gate_store (t := 4) (p := 31) rfl ?_); refine store_event (t := 4) (p := 31) (v := ?vo_w20) (w1 := (wr.setCell ⟨go16, (((J76 t289 x7_1).f3) : Int).toNat, none⟩ (.bool true))) ?hg ?ho ?hn ?hr ?_; (case ho => rfl); (case hg => rfl); (case hn => rfl); (case hr => first | (go_simp; done) | (go_simp; rfl)); intro w20 hw; have hg : wr.grownBy w20 (some go16) := (by rw [hw]; exact HP19.2); have hp_ : Kd.R Kd.bool 4 w20 w.heap.size (fun k_ => (w.heap.size ≤ k_)) (.slice (some ⟨go16, 0, none⟩) x6_1.length co16) y297 := (by rw [hw, Ny297.out]; exact HP19.1); clear HP19; have n0_ := asd (Kd.V_afterv (v := (.slice (some ⟨go16, 0, none⟩) x6_1.length co16)) (v1 := (.slice (some ⟨go16, 0, none⟩) x6_1.length co16)) (ok := (fun k_ => (P0_ k_ ∨ w.heap.size ≤ k_) ∧ some k_ ≠ (.slice (some ad296) t289.length co18 : Value).ownBlock)) (by (with_reducible repeat (first | apply Kd.V_alloc | apply Kd.V_drewN | apply Kd.V_drew)); exact Kd.V_mono HO_0.out (fun _ hk => ⟨⟨hk.1, hk.2.1⟩, hk.2.2⟩)) hg (.inl rfl)); have n1_ := asd (Kd.N_afterv (v := (.slice (some ⟨go16, 0, none⟩) x6_1.length co16)) (v1 := (.slice (some ⟨go16, 0, none⟩) x6_1.length co16)) (ok := (fun k_ => (P0_ k_ ∨ w.heap.size ≤ k_))) (by (with_reducible repeat (first | apply Kd.N_alloc | apply Kd.N_drewN | apply Kd.N_drew)); exact HO_5.out) hg (.inl rfl)); have n2_ := asd (hp_); have n3_ := asd (Kd.V_afterv (v := (.slice (some ⟨go16, 0, none⟩) x6_1.length co16)) (v1 := (.slice (some ⟨go16, 0, none⟩) x6_1.length co16)) (ok := (fun k_ => (P0_ k_ ∨ w.heap.size ≤ k_) ∧ some k_ ≠ (.slice (some ad296) t289.length co18 : Value).ownBlock)) (by (with_reducible repeat (first | apply Kd.V_alloc | apply Kd.V_drewN | apply Kd.V_drew)); exact Kd.V_mono HL296_8.out (fun _ hk => ⟨⟨hk.1.1, hk.2⟩, hk.1.2⟩)) hg (.inl rfl)); have n4_ := asd ((by rw [hw]; exact below_set (HB.out) GB16.out : Below w.heap.size w w20)); clear HO_0; clear HO_5; clear HO_6; clear HL296_8; clear HB; have HO_0 := n0_; have HO_5 := n1_; have HO_6 := n2_; have HL296_8 := n3_; have HB := n4_; clear n0_ n1_ n2_ n3_ n4_; clear hg hw hp_; have p298 : 0 ≤ (x7_1 : Int) := dt; have q298 : x7_1 < (l1.length : Int) := dt; obtain ⟨ad298, e298, hx298_0⟩ := Kd.at_bool HR1.out x7_1 p298 q298; (try rw [← Nbq12.out] at hx298_0); obtain rfl : ad295 = ad298 := (by injection e298); replace hx298_0 := skc HB.out hx298_0; replace p298 := eq_true p298; replace q298 := eq_true q298; have p299 : 0 ≤ (x7_1 : Int) := dt; have q299 : x7_1 < (t289.length : Int) := dt; obtain ⟨ad299, A299_8, c299_8, e299, hx299_0, hx299_1, hx299_2, hx299_3, hx299_4, hx299_5, hx299_6, hx299_7, hx299_8, hx299_9, hx299_10, hl299_8, hi299_8⟩ := at_T76 (Kd.N_reads' HO_5.out).2.2 x7_1 p299 q299; (try rw [← Nbq12.out] at hx299_5); obtain rfl : ad296 = ad299 := (by injection e299); obtain ⟨ce299, hce299, hMe299, hcc299⟩ := Kd.N_get HO_5.out z76 x7_1 p299 (by first | exact q299 | exact dt | (have e_ := (Kd.N_reads' HO_5.out).1; omega)); obtain ⟨ua299_8, uc299_8, rfl, ul299_8, ge299_8⟩ := k76_openF hMe299; have hv299_8 := hcc299 8 _ rfl; rw [add_field _ _ 8 (by omega)] at hv299_8; replace hv299_8 := Option.some.inj (hv299_8.symm.trans hx299_8); injection hv299_8 with hva_ hvn_ hvc_; rw [hva_] at ge299_8; rw [hvc_] at ul299_8; have HL299_8 := asd (show Kd.V k70 70 _ w.heap.size _ _ ((J76 t289 x7_1).f2.f3) from Kd.V_mk ul299_8 ge299_8); clear hva_ hvn_ hvc_ ge299_8 ul299_8; clear hcc299 hce299; have HR299_8 := asd hi299_8; have HC299_8 := asd hl299_8; clear hi299_8 hl299_8; replace p299 := eq_true p299; replace q299 := eq_true q299))
            go_roundg k1
            case measure => have := HK1.out; omega
            case rel => exact ⟨(y297), (wrap64 (x7_1 + 1)), rs, H', ⟨by have := HK1.out; omega⟩, ⟨by (with_reducible repeat (first | apply Kd.V_alloc | apply Kd.V_drewN | apply Kd.V_drew)); exact Kd.V_mono HO_0.out (fun _ hk => ⟨hk.1.1, ⟨hk.1.2, hk.2⟩⟩)⟩, ⟨by (with_reducible repeat (first | apply Kd.N_alloc | apply Kd.N_drewN | apply Kd.N_drew)); exact HO_5.out⟩, ⟨skR HO_6.out⟩, ⟨skB HB.out⟩⟩
           ·
            rw [if_neg c17] at H
            have c17b0 : (((J76 t289 x7_1).f4) == (-1)) = false := beq_eq_false_iff_ne.mpr c17
            have c17b1 : (((J76 t289 x7_1).f4) != (-1)) = true := bne_iff_ne.mpr c17
            by_cases c21 : 0 ≤ ((J76 t289 x7_1).f4)
            ·
             rw [if_pos c21] at H
             have c21b0 : decide (0 ≤ ((J76 t289 x7_1).f4)) = true := decide_eq_true c21
             clear c21
             by_cases c22 : ((J76 t289 x7_1).f4) < (x6_1.length : Int)
             ·
              rw [if_pos c22] at H
              have c22b0 : decide (((J76 t289 x7_1).f4) < (x6_1.length : Int)) = true := decide_eq_true c22
              clear c22
              obtain ⟨y301, hy301⟩ : ∃ y_ : List Bool, y_ = (y297.set (((J76 t289 x7_1).f4) : Int).toNat true) := ⟨_, rfl⟩
              replace H : (larchref05_kept.l0 k1 l0 l1 t289 y301 (wrap64 (x7_1 + 1))) = some r := by first | (rw [hy301]; with_reducible exact H) | (have H2_ := (Option.bind_some _ _).symm.trans H; rw [hy301]; with_reducible exact H2_) | (have H2_ := (Option.bind_some _ _).symm.trans H; with_reducible exact H2_) | with_reducible exact H | (rw [hy301]; exact H) | exact H
              have Ny301 := asd hy301
              clear hy301
              have H' := asd H
              clear H
              obtain ⟨Ao24, co24, eo24⟩ := Kd.N_slice HO_5.out
              subst eo24
              have p295 : 0 ≤ (x7_1 : Int) := dt
              have q295 : x7_1 < (l1.length : Int) := dt
              obtain ⟨ad295, e295, hx295_0⟩ := Kd.at_bool HR1.out x7_1 p295 q295
              (try rw [← Nbq12.out] at hx295_0)
              cases e295
              replace hx295_0 := skc HB.out hx295_0
              replace p295 := eq_true p295
              replace q295 := eq_true q295
              have p296 : 0 ≤ (x7_1 : Int) := dt
              have q296 : x7_1 < (t289.length : Int) := dt
              obtain ⟨ad296, A296_8, c296_8, e296, hx296_0, hx296_1, hx296_2, hx296_3, hx296_4, hx296_5, hx296_6, hx296_7, hx296_8, hx296_9, hx296_10, hl296_8, hi296_8⟩ := at_T76 (Kd.N_reads' HO_5.out).2.2 x7_1 p296 q296
              (try rw [← Nbq12.out] at hx296_5)
              cases e296
              obtain ⟨ce296, hce296, hMe296, hcc296⟩ := Kd.N_get HO_5.out z76 x7_1 p296 (by first | exact q296 | exact dt | (have e_ := (Kd.N_reads' HO_5.out).1; omega))
              obtain ⟨ua296_8, uc296_8, rfl, ul296_8, ge296_8⟩ := k76_openF hMe296
              have hv296_8 := hcc296 8 _ rfl
              rw [add_field _ _ 8 (by omega)] at hv296_8
              replace hv296_8 := Option.some.inj (hv296_8.symm.trans hx296_8)
              injection hv296_8 with hva_ hvn_ hvc_
              rw [hva_] at ge296_8
              rw [hvc_] at ul296_8
              have HL296_8 := asd (show Kd.V k70 70 _ w.heap.size _ _ ((J76 t289 x7_1).f2.f3) from Kd.V_mk ul296_8 ge296_8)
              clear hva_ hvn_ hvc_ ge296_8 ul296_8
              clear hcc296 hce296
              have HR296_8 := asd hi296_8
              have HC296_8 := asd hl296_8
              clear hi296_8 hl296_8
              replace p296 := eq_true p296
              replace q296 := eq_true q296
              have p16 : 0 ≤ (((J76 t289 x7_1).f3) : Int) := dt
              have q16 : (((J76 t289 x7_1).f3) : Int) < ((x6_1.length : Int) : Int) := dt
              obtain ⟨go16, co16, eo16, gb16, gl16, cl16, HG16⟩ := Kd.R_form HO_6.out (by omega)
              (first | cases eo16 | (injection eo16 with ea_ en_ ec_; (first | subst ea_ | (injection ea_ with ea_; subst ea_)); subst ec_; clear en_))
              have GB16 := asd gb16
              have GG16 := asd HG16
              clear gb16 gl16 HG16
              obtain ⟨hx16_0, hf16_0⟩ := Kd.R_celln false HO_6.out (((J76 t289 x7_1).f3) : Int) p16 q16
              replace p16 := eq_true p16
              replace q16 := eq_true q16
              have HP25 := Kd.R_putg HO_6.out (((J76 t289 x7_1).f3) : Int) true
              go_wp2_with (first | ((with_reducible refine gate_store (t := 4) (p := 31) rfl ?_); refine store_event (t := 4) (p := 31) (v := ?vo_w26) (w1 := (wr.setCell ⟨go16, (((J76 t289 x7_1).f3) : Int).toNat, none⟩ (.bool true))) ?hg ?ho ?hn ?hr ?_; (case ho => rfl); (case hg => rfl); (case hn => rfl); (case hr => first | (go_simp; done) | (go_simp; rfl)); intro w26 hw; have hg : wr.grownBy w26 (some go16) := (by rw [hw]; exact HP25.2); have hp_ : Kd.R Kd.bool 4 w26 w.heap.size (fun k_ => (w.heap.size ≤ k_)) (.slice (some ⟨go16, 0, none⟩) x6_1.length co16) y297 := (by rw [hw, Ny297.out]; exact HP25.1); clear HP25; have n0_ := asd (Kd.V_afterv (v := (.slice (some ⟨go16, 0, none⟩) x6_1.length co16)) (v1 := (.slice (some ⟨go16, 0, none⟩) x6_1.length co16)) (ok := (fun k_ => (P0_ k_ ∨ w.heap.size ≤ k_) ∧ some k_ ≠ (.slice (some ad296) t289.length co24 : Value).ownBlock)) (by (with_reducible repeat (first | apply Kd.V_alloc | apply Kd.V_drewN | apply Kd.V_drew)); exact Kd.V_mono HO_0.out (fun _ hk => ⟨⟨hk.1, hk.2.1⟩, hk.2.2⟩)) hg (.inl rfl)); have n1_ := asd (Kd.N_afterv (v := (.slice (some ⟨go16, 0, none⟩) x6_1.length co16)) (v1 := (.slice (some ⟨go16, 0, none⟩) x6_1.length co16)) (ok := (fun k_ => (P0_ k_ ∨ w.heap.size ≤ k_))) (by (with_reducible repeat (first | apply Kd.N_alloc | apply Kd.N_drewN | apply Kd.N_drew)); exact HO_5.out) hg (.inl rfl)); have n2_ := asd (hp_); have n3_ := asd (Kd.V_afterv (v := (.slice (some ⟨go16, 0, none⟩) x6_1.length co16)) (v1 := (.slice (some ⟨go16, 0, none⟩) x6_1.length co16)) (ok := (fun k_ => (P0_ k_ ∨ w.heap.size ≤ k_) ∧ some k_ ≠ (.slice (some ad296) t289.length co24 : Value).ownBlock)) (by (with_reducible repeat (first | apply Kd.V_alloc | apply Kd.V_drewN | apply Kd.V_drew)); exact Kd.V_mono HL296_8.out (fun _ hk => ⟨⟨hk.1.1, hk.2⟩, hk.1.2⟩)) hg (.inl rfl)); have n4_ := asd ((by rw [hw]; exact below_set (HB.out) GB16.out : Below w.heap.size w w26)); clear HO_0; clear HO_5; clear HO_6; clear HL296_8; clear HB; have HO_0 := n0_; have HO_5 := n1_; have HO_6 := n2_; have HL296_8 := n3_; have HB := n4_; clear n0_ n1_ n2_ n3_ n4_; clear hg hw hp_; have p298 : 0 ≤ (x7_1 : Int) := dt; have q298 : x7_1 < (l1.length : Int) := dt; obtain ⟨ad298, e298, hx298_0⟩ := Kd.at_bool HR1.out x7_1 p298 q298; (try rw [← Nbq12.out] at hx298_0); obtain rfl : ad295 = ad298 := (by injection e298); replace hx298_0 := skc HB.out hx298_0; replace p298 := eq_true p298; replace q298 := eq_true q298; have p299 : 0 ≤ (x7_1 : Int) := dt; have q299 : x7_1 < (t289.length : Int) := dt; obtain ⟨ad299, A299_8, c299_8, e299, hx299_0, hx299_1, hx299_2, hx299_3, hx299_4, hx299_5, hx299_6, hx299_7, hx299_8, hx299_9, hx299_10, hl299_8, hi299_8⟩ := at_T76 (Kd.N_reads' HO_5.out).2.2 x7_1 p299 q299; (try rw [← Nbq12.out] at hx299_5); obtain rfl : ad296 = ad299 := (by injection e299); obtain ⟨ce299, hce299, hMe299, hcc299⟩ := Kd.N_get HO_5.out z76 x7_1 p299 (by first | exact q299 | exact dt | (have e_ := (Kd.N_reads' HO_5.out).1; omega)); obtain ⟨ua299_8, uc299_8, rfl, ul299_8, ge299_8⟩ := k76_openF hMe299; have hv299_8 := hcc299 8 _ rfl; rw [add_field _ _ 8 (by omega)] at hv299_8; replace hv299_8 := Option.some.inj (hv299_8.symm.trans hx299_8); injection hv299_8 with hva_ hvn_ hvc_; rw [hva_] at ge299_8; rw [hvc_] at ul299_8; have HL299_8 := asd (show Kd.V k70 70 _ w.heap.size _ _ ((J76 t289 x7_1).f2.f3) from Kd.V_mk ul299_8 ge299_8); clear hva_ hvn_ hvc_ ge299_8 ul299_8; clear hcc299 hce299; have HR299_8 := asd hi299_8; have HC299_8 := asd hl299_8; clear hi299_8 hl299_8; replace p299 := eq_true p299; replace q299 := eq_true q299; have p300 : 0 ≤ (x7_1 : Int) := dt; have q300 : x7_1 < (t289.length : Int) := dt; obtain ⟨ad300, A300_8, c300_8, e300, hx300_0, hx300_1, hx300_2, hx300_3, hx300_4, hx300_5, hx300_6, hx300_7, hx300_8, hx300_9, hx300_10, hl300_8, hi300_8⟩ := at_T76 (Kd.N_reads' HO_5.out).2.2 x7_1 p300 q300; (try rw [← Nbq12.out] at hx300_5); obtain rfl : ad296 = ad300 := (by injection e300); obtain ⟨ce300, hce300, hMe300, hcc300⟩ := Kd.N_get HO_5.out z76 x7_1 p300 (by first | exact q300 | exact dt | (have e_ := (Kd.N_reads' HO_5.out).1; omega)); obtain ⟨ua300_8, uc300_8, rfl, ul300_8, ge300_8⟩ := k76_openF hMe300; have hv300_8 := hcc300 8 _ rfl; rw [add_field _ _ 8 (by omega)] at hv300_8; replace hv300_8 := Option.some.inj (hv300_8.symm.trans hx300_8); injection hv300_8 with hva_ hvn_ hvc_; rw [hva_] at ge300_8; rw [hvc_] at ul300_8; have HL300_8 := asd (show Kd.V k70 70 _ w.heap.size _ _ ((J76 t289 x7_1).f2.f3) from Kd.V_mk ul300_8 ge300_8); clear hva_ hvn_ hvc_ ge300_8 ul300_8; clear hcc300 hce300; have HR300_8 := asd hi300_8; have HC300_8 := asd hl300_8; clear hi300_8 hl300_8; replace p300 := eq_true p300; replace q300 := eq_true q300; have ea_ := Option.some.inj (hx299_8.symm.trans hx300_8); injection ea_ with ea_ en_ ec_; subst ea_; subst ec_; clear en_; have p23 : 0 ≤ (((J76 t289 x7_1).f4) : Int) := dt; have q23 : (((J76 t289 x7_1).f4) : Int) < ((x6_1.length : Int) : Int) := dt; obtain ⟨hx23_0, hf23_0⟩ := Kd.R_celln false HO_6.out (((J76 t289 x7_1).f4) : Int) p23 q23; replace p23 := eq_true p23; replace q23 := eq_true q23; obtain ⟨hy27_, hz27_⟩ := Kd.R_celln false HO_6.out (((J76 t289 x7_1).f4) : Int) dt dt; have HP27 := Kd.R_putg HO_6.out (((J76 t289 x7_1).f4) : Int) true) | ((with_reducible refine gate_store (t := 4) (p := 50) rfl ?_); refine store_event (t := 4) (p := 50) (v := ?vo_w28) (w1 := (w26.setCell ⟨go16, (((J76 t289 x7_1).f4) : Int).toNat, none⟩ (.bool true))) ?hg ?ho ?hn ?hr ?_; (case ho => rfl); (case hg => rfl); (case hn => rfl); (case hr => first | (go_simp; done) | (go_simp; rfl)); intro w28 hw; have hg : w26.grownBy w28 (some go16) := (by rw [hw]; exact HP27.2); have hp_ : Kd.R Kd.bool 4 w28 w.heap.size (fun k_ => (w.heap.size ≤ k_)) (.slice (some ⟨go16, 0, none⟩) x6_1.length co16) y301 := (by rw [hw, Ny301.out]; exact HP27.1); clear HP27; have n0_ := asd (Kd.V_afterv (v := (.slice (some ⟨go16, 0, none⟩) x6_1.length co16)) (v1 := (.slice (some ⟨go16, 0, none⟩) x6_1.length co16)) (ok := (fun k_ => (P0_ k_ ∨ w.heap.size ≤ k_) ∧ some k_ ≠ (.slice (some ad296) t289.length co24 : Value).ownBlock)) (by (with_reducible repeat (first | apply Kd.V_alloc | apply Kd.V_drewN | apply Kd.V_drew)); exact HO_0.out) hg (.inl rfl)); have n1_ := asd (Kd.N_afterv (v := (.slice (some ⟨go16, 0, none⟩) x6_1.length co16)) (v1 := (.slice (some ⟨go16, 0, none⟩) x6_1.length co16)) (ok := (fun k_ => (P0_ k_ ∨ w.heap.size ≤ k_))) (by (with_reducible repeat (first | apply Kd.N_alloc | apply Kd.N_drewN | apply Kd.N_drew)); exact HO_5.out) hg (.inl rfl)); have n2_ := asd (hp_); have n3_ := asd (Kd.V_afterv (v := (.slice (some ⟨go16, 0, none⟩) x6_1.length co16)) (v1 := (.slice (some ⟨go16, 0, none⟩) x6_1.length co16)) (ok := (fun k_ => (P0_ k_ ∨ w.heap.size ≤ k_) ∧ some k_ ≠ (.slice (some ad296) t289.length co24 : Value).ownBlock)) (by (with_reducible repeat (first | apply Kd.V_alloc | apply Kd.V_drewN | apply Kd.V_drew)); exact HL296_8.out) hg (.inl rfl)); have n4_ := asd (Kd.V_afterv (v := (.slice (some ⟨go16, 0, none⟩) x6_1.length co16)) (v1 := (.slice (some ⟨go16, 0, none⟩) x6_1.length co16)) (ok := (fun k_ => (P0_ k_ ∨ w.heap.size ≤ k_) ∧ some k_ ≠ (.slice (some ad296) t289.length co24 : Value).ownBlock)) (by (with_reducible repeat (first | apply Kd.V_alloc | apply Kd.V_drewN | apply Kd.V_drew)); exact Kd.V_mono HL299_8.out (fun _ hk => ⟨⟨hk.1.1, hk.2⟩, hk.1.2⟩)) hg (.inl rfl)); have n5_ := asd (Kd.V_afterv (v := (.slice (some ⟨go16, 0, none⟩) x6_1.length co16)) (v1 := (.slice (some ⟨go16, 0, none⟩) x6_1.length co16)) (ok := (fun k_ => (P0_ k_ ∨ w.heap.size ≤ k_) ∧ some k_ ≠ (.slice (some ad296) t289.length co24 : Value).ownBlock)) (by (with_reducible repeat (first | apply Kd.V_alloc | apply Kd.V_drewN | apply Kd.V_drew)); exact Kd.V_mono HL300_8.out (fun _ hk => ⟨⟨hk.1.1, hk.2⟩, hk.1.2⟩)) hg (.inl rfl)); have n6_ := asd ((by rw [hw]; exact below_set (HB.out) GB16.out : Below w.heap.size w w28)); clear HO_0; clear HO_5; clear HO_6; clear HL296_8; clear HL299_8; clear HL300_8; clear HB; have HO_0 := n0_; have HO_5 := n1_; have HO_6 := n2_; have HL296_8 := n3_; have HL299_8 := n4_; have HL300_8 := n5_; have HB := n6_; clear n0_ n1_ n2_ n3_ n4_ n5_ n6_; clear hg hw hp_))
              go_roundg k1
              case measure => have := HK1.out; omega
              case rel => exact ⟨(y301), (wrap64 (x7_1 + 1)), rs, H', ⟨by have := HK1.out; omega⟩, ⟨by (with_reducible repeat (first | apply Kd.V_alloc | apply Kd.V_drewN | apply Kd.V_drew)); exact Kd.V_mono HO_0.out (fun _ hk => ⟨hk.1.1, ⟨hk.1.2, hk.2⟩⟩)⟩, ⟨by (with_reducible repeat (first | apply Kd.N_alloc | apply Kd.N_drewN | apply Kd.N_drew)); exact HO_5.out⟩, ⟨skR HO_6.out⟩, ⟨skB HB.out⟩⟩
             ·
              rw [if_neg c22] at H
              exact absurd H (by simp)
            ·
             rw [if_neg c21] at H
             exact absurd H (by simp)
          ·
           rw [if_neg c15] at H
           exact absurd H (by simp)
         ·
          rw [if_neg c14] at H
          exact absurd H (by simp)
        ·
         replace c13 := Bool.eq_false_iff.mpr c13
         subst c13
         have H1 : (larchref05_kept.l0 k1 l0 l1 t289 x6_1 (wrap64 (x7_1 + 1))) = some r := by rw [if_neg (show ¬ (false = true) by decide)] at H; exact H
         clear H
         have H := H1
         clear H1
         have H' := asd H
         clear H
         obtain ⟨Ao29, co29, eo29⟩ := Kd.N_slice HO_5.out
         subst eo29
         have p295 : 0 ≤ (x7_1 : Int) := dt
         have q295 : x7_1 < (l1.length : Int) := dt
         obtain ⟨ad295, e295, hx295_0⟩ := Kd.at_bool HR1.out x7_1 p295 q295
         (try rw [← Nbq12.out] at hx295_0)
         cases e295
         replace hx295_0 := skc HB.out hx295_0
         replace p295 := eq_true p295
         replace q295 := eq_true q295
         have p302 : 0 ≤ (x7_1 : Int) := dt
         have q302 : x7_1 < (l1.length : Int) := dt
         obtain ⟨ad302, e302, hx302_0⟩ := Kd.at_bool HR1.out x7_1 p302 q302
         (try rw [← Nbq12.out] at hx302_0)
         obtain rfl : ad295 = ad302 := (by injection e302)
         replace hx302_0 := skc HB.out hx302_0
         replace p302 := eq_true p302
         replace q302 := eq_true q302
         go_wp2
         go_roundg k1
         case measure => have := HK1.out; omega
         case rel => exact ⟨(x6_1), (wrap64 (x7_1 + 1)), rs, H', ⟨by have := HK1.out; omega⟩, ⟨by (with_reducible repeat (first | apply Kd.V_alloc | apply Kd.V_drewN | apply Kd.V_drew)); exact HO_0.out⟩, ⟨by (with_reducible repeat (first | apply Kd.N_alloc | apply Kd.N_drewN | apply Kd.N_drew)); exact HO_5.out⟩, ⟨skR HO_6.out⟩, ⟨skB HB.out⟩⟩
       ·
        rw [if_neg c11] at H
        exact absurd H (by simp)
      ·
       rw [if_neg c10] at H
       exact absurd H (by simp)
     ·
      rw [if_neg c9] at H
      have c9b0 : decide (x7_1 < (t289.length : Int)) = false := decide_eq_false c9
      clear c9
      have H' := asd H
      clear H
      obtain ⟨Ao30, co30, eo30⟩ := Kd.N_slice HO_5.out
      subst eo30
      go_wp2
      go_loopg [8, 9] k1 (fun kq v8 v9 w' => ∃ (x8_2 : List (S67)) (x9_2 : Int), v9 = .int .i64 x9_2 ∧ Aside0 (larchref05_kept.l1 kq l0 x6_1 x8_2 x9_2 = some r) ∧ Aside0 (kq ≤ k1) ∧ Aside0 (Kd.V k67 67 w' w.heap.size (fun k_ => (P0_ k_ ∨ w.heap.size ≤ k_) ∧ some k_ ≠ (v293 : Value).ownBlock ∧ some k_ ≠ (v8 : Value).ownBlock) (.slice A0 l0.length c0) l0) ∧ Aside0 (Kd.R Kd.bool 4 w' w.heap.size (fun k_ => (w.heap.size ≤ k_)) v293 x6_1) ∧ Aside0 (Kd.N k67 67 w' w.heap.size (fun k_ => (P0_ k_ ∨ w.heap.size ≤ k_) ∧ some k_ ≠ (v293 : Value).ownBlock) v8 x8_2) ∧ Aside0 (Below w.heap.size w w'))
      case atStart => exact ⟨(([] : List (S67))), (0), rs, H', ⟨Nat.le_refl _⟩, ⟨by (with_reducible repeat (first | apply Kd.V_alloc | apply Kd.V_drewN | apply Kd.V_drew)); exact Kd.V_mono HO_0.out (fun _ hk => ⟨hk.1, ⟨hk.2.2, (by simp [Value.ownBlock])⟩⟩)⟩, ⟨skR HO_6.out⟩, ⟨by first | exact Kd.S_nil _ _ _ _ _ | exact Kd.N_nil _ _ _ _ _ | exact Kd.V_nil _ _ _ _ _ | exact Kd.Q_nil _ _ _ _ _ | exact Kd.R_nil _ _ _ _ _⟩, ⟨skB HB.out⟩⟩
      case round =>
       clear H'
       try clear c1
       try clear p1
       try clear q1
       try clear hx1
       try clear c2
       try clear p2
       try clear q2
       try clear hx2
       try clear hf2
       try clear c3
       try clear p3
       try clear q3
       try clear hx3
       try clear c4
       try clear c4b0
       try clear c4b1
       try clear c5
       try clear c5b0
       try clear c5b1
       try clear c6
       try clear p6
       try clear c9
       try clear c9b0
       try clear c10
       try clear c10b0
       try clear c11
       try clear c11b0
       try clear q12
       try clear c13
       try clear c14
       try clear c14b0
       try clear c15
       try clear c15b0
       try clear p16
       try clear q16
       try clear hx16
       try clear hf16
       try clear c17
       try clear c17b0
       try clear c17b1
       try clear c21
       try clear c21b0
       try clear c22
       try clear c22b0
       try clear p23
       try clear q23
       try clear hx23
       try clear hf23
       try clear c29
       try clear p29
       try clear q29
       try clear hx29
       try clear c30
       try clear p30
       try clear q30
       try clear hx30
       try clear hx16_0
       try clear hx23_0
       try clear hx295_0
       try clear hx296_0
       try clear hx296_1
       try clear hx296_10
       try clear hx296_2
       try clear hx296_3
       try clear hx296_4
       try clear hx296_5
       try clear hx296_6
       try clear hx296_7
       try clear hx296_8
       try clear hx296_9
       try clear hx298_0
       try clear hx299_0
       try clear hx299_1
       try clear hx299_10
       try clear hx299_2
       try clear hx299_3
       try clear hx299_4
       try clear hx299_5
       try clear hx299_6
       try clear hx299_7
       try clear hx299_8
       try clear hx299_9
       try clear hx300_0
       try clear hx300_1
       try clear hx300_10
       try clear hx300_2
       try clear hx300_3
       try clear hx300_4
       try clear hx300_5
       try clear hx300_6
       try clear hx300_7
       try clear hx300_8
       try clear hx300_9
       try clear hx302_0
       try clear p16
       try clear p2
       try clear p23
       try clear p295
       try clear p296
       try clear p298
       try clear p299
       try clear p300
       try clear p302
       try clear q16
       try clear q23
       try clear q295
       try clear q296
       try clear q298
       try clear q299
       try clear q300
       try clear q302
       obtain ⟨x8_2, x9_2, rfl, HA, HK2, HO_0, HO_6, HO_8, HB⟩ := hrel
       cases gk with
       | zero => exact absurd HA.out (by simp [larchref05_kept.l1])
       | succ k2 =>
        have H := HA.out
        clear HA
        simp only [larchref05_kept.l1] at H
        by_cases c31 : x9_2 < (l0.length : Int)
        ·
         rw [if_pos c31] at H
         have c31b0 : decide (x9_2 < (l0.length : Int)) = true := decide_eq_true c31
         clear c31
         by_cases c32 : 0 ≤ x9_2
         ·
          rw [if_pos c32] at H
          have c32b0 : decide (0 ≤ x9_2) = true := decide_eq_true c32
          clear c32
          by_cases c33 : x9_2 < (x6_1.length : Int)
          ·
           rw [if_pos c33] at H
           have c33b0 : decide (x9_2 < (x6_1.length : Int)) = true := decide_eq_true c33
           clear c33
           obtain ⟨bq34, hbq34⟩ : ∃ b_ : Bool, b_ = (rdOf false x6_1 x9_2) := ⟨_, rfl⟩
           replace H : (if bq34 = true then (if x8_2.length < 1466015503701 then (larchref05_kept.l1 k2 l0 x6_1 (x8_2 ++ [(⟨(J67 l0 x9_2).f0, (J67 l0 x9_2).f1, (⟨(J67 l0 x9_2).f2.f0, (J67 l0 x9_2).f2.f1, (J67 l0 x9_2).f2.f2, (J67 l0 x9_2).f2.f3⟩ : S33), (⟨(J67 l0 x9_2).f3.f0, (J67 l0 x9_2).f3.f1, (J67 l0 x9_2).f3.f2, (J67 l0 x9_2).f3.f3⟩ : S36)⟩ : S67)]) (wrap64 (x9_2 + 1))) else (none)) else (larchref05_kept.l1 k2 l0 x6_1 x8_2 (wrap64 (x9_2 + 1)))) = some r := by rw [← hbq34] at H; exact H
           have Nbq34 := asd hbq34
           clear hbq34
           by_cases c35 : bq34 = true
           ·
            subst c35
            have H1 : (if x8_2.length < 1466015503701 then (larchref05_kept.l1 k2 l0 x6_1 (x8_2 ++ [(⟨(J67 l0 x9_2).f0, (J67 l0 x9_2).f1, (⟨(J67 l0 x9_2).f2.f0, (J67 l0 x9_2).f2.f1, (J67 l0 x9_2).f2.f2, (J67 l0 x9_2).f2.f3⟩ : S33), (⟨(J67 l0 x9_2).f3.f0, (J67 l0 x9_2).f3.f1, (J67 l0 x9_2).f3.f2, (J67 l0 x9_2).f3.f3⟩ : S36)⟩ : S67)]) (wrap64 (x9_2 + 1))) else (none)) = some r := by rw [if_pos rfl] at H; exact H
            clear H
            have H := H1
            clear H1
            by_cases c36 : x8_2.length < 1466015503701
            ·
             rw [if_pos c36] at H
             have LMc36 := asd c36
             clear c36
             obtain ⟨y305, hy305⟩ : ∃ y_ : List (S67), y_ = (x8_2 ++ [(⟨(J67 l0 x9_2).f0, (J67 l0 x9_2).f1, (⟨(J67 l0 x9_2).f2.f0, (J67 l0 x9_2).f2.f1, (J67 l0 x9_2).f2.f2, (J67 l0 x9_2).f2.f3⟩ : S33), (⟨(J67 l0 x9_2).f3.f0, (J67 l0 x9_2).f3.f1, (J67 l0 x9_2).f3.f2, (J67 l0 x9_2).f3.f3⟩ : S36)⟩ : S67)]) := ⟨_, rfl⟩
             replace H : (larchref05_kept.l1 k2 l0 x6_1 y305 (wrap64 (x9_2 + 1))) = some r := by first | (rw [hy305]; with_reducible exact H) | (have H2_ := (Option.bind_some _ _).symm.trans H; rw [hy305]; with_reducible exact H2_) | (have H2_ := (Option.bind_some _ _).symm.trans H; with_reducible exact H2_) | with_reducible exact H | (rw [hy305]; exact H) | exact H
             have Ny305 := asd hy305
             clear hy305
             have H' := asd H
             clear H
             obtain ⟨Ao37, co37, eo37⟩ := Kd.R_slice HO_6.out
             subst eo37
             have p303 : 0 ≤ (x9_2 : Int) := dt
             have q303 : x9_2 < (x6_1.length : Int) := dt
             obtain ⟨ad303, e303, hx303_0⟩ := Kd.at_bool (Kd.R_reads' HO_6.out).2.2 x9_2 p303 q303
             (try rw [← Nbq34.out] at hx303_0)
             cases e303
             replace p303 := eq_true p303
             replace q303 := eq_true q303
             have p304 : 0 ≤ (x9_2 : Int) := dt
             have q304 : x9_2 < (l0.length : Int) := dt
             obtain ⟨ad304, A304_9, c304_9, e304, hx304_0, hx304_1, hx304_2, hx304_3, hx304_4, hx304_5, hx304_6, hx304_7, hx304_8, hx304_9, hl304_9, hi304_9⟩ := at_T67 (Kd.V_reads' HO_0.out).2.2 x9_2 p304 q304
             (try rw [← Nbq34.out] at hx304_1)
             (try rw [← Nbq34.out] at hx304_6)
             cases e304
             obtain ⟨ce304, hce304, hMe304, hcc304⟩ := Kd.V_get HO_0.out z67 x9_2 p304 (by first | exact q304 | exact dt | (have e_ := (Kd.V_reads' HO_0.out).1; omega))
             obtain ⟨ua304_9, uc304_9, rfl, ul304_9, ge304_9⟩ := k67_openF hMe304
             have hv304_9 := hcc304 9 _ rfl
             rw [add_field _ _ 9 (by omega)] at hv304_9
             replace hv304_9 := Option.some.inj (hv304_9.symm.trans hx304_9)
             injection hv304_9 with hva_ hvn_ hvc_
             rw [hva_] at ge304_9
             rw [hvc_] at ul304_9
             have HL304_9 := asd (show Kd.V k70 70 _ w.heap.size _ _ ((J67 l0 x9_2).f3.f3) from Kd.V_mk ul304_9 ge304_9)
             clear hva_ hvn_ hvc_ ge304_9 ul304_9
             clear hcc304 hce304
             have HR304_9 := asd hi304_9
             have HC304_9 := asd hl304_9
             clear hi304_9 hl304_9
             replace p304 := eq_true p304
             replace q304 := eq_true q304
             go_wp2_with (first | ((with_reducible refine gate_builtin (b := .append) (xs := #[.tmp 61, .tmp 66]) rfl ?_); at_builtin; refine Kd.N_append k67 (w0 := w) w.heap.size rfl (.tmp 61) (.tmp 66) 22 67 (.agg #[(.int .i64 0), (.bool false), (.int .i64 0), (.int .i64 0), (.int .i64 0), (.int .i64 0), (.bool false), (.int .i64 0), (.int .i64 0), (.slice none 0 0)]) 96 rfl Try.underlying22 info67 rfl (by decide) (by omega) u8 x8_2 (⟨(J67 l0 x9_2).f0, (J67 l0 x9_2).f1, (⟨(J67 l0 x9_2).f2.f0, (J67 l0 x9_2).f2.f1, (J67 l0 x9_2).f2.f2, (J67 l0 x9_2).f2.f3⟩ : S33), (⟨(J67 l0 x9_2).f3.f0, (J67 l0 x9_2).f3.f1, (J67 l0 x9_2).f3.f2, (J67 l0 x9_2).f3.f3⟩ : S36)⟩ : S67) [.int .i64 ((J67 l0 x9_2).f0), .bool ((J67 l0 x9_2).f1), .int .i64 ((J67 l0 x9_2).f2.f0), .int .i64 ((J67 l0 x9_2).f2.f1), .int .i64 ((J67 l0 x9_2).f2.f2), .int .i64 ((J67 l0 x9_2).f2.f3), .bool ((J67 l0 x9_2).f3.f0), .int .i64 ((J67 l0 x9_2).f3.f1), .int .i64 ((J67 l0 x9_2).f3.f2), .slice A304_9 ((J67 l0 x9_2).f3.f3).length c304_9] (fun k_ => (P0_ k_ ∨ w.heap.size ≤ k_) ∧ some k_ ≠ (.slice (some ad303) x6_1.length co37 : Value).ownBlock) (fun k_ => ((fun k_ => (P0_ k_ ∨ w.heap.size ≤ k_) ∧ some k_ ≠ (.slice (some ad303) x6_1.length co37 : Value).ownBlock)) k_ ∧ some k_ ≠ (u8 : Value).ownBlock) rfl rfl ?aP (fun _ hk => hk) ?aF ?aO ?aB ?aS ?aL ?_; (case aP => exact (k67_mkF _ _ (⟨(J67 l0 x9_2).f0, (J67 l0 x9_2).f1, (⟨(J67 l0 x9_2).f2.f0, (J67 l0 x9_2).f2.f1, (J67 l0 x9_2).f2.f2, (J67 l0 x9_2).f2.f3⟩ : S33), (⟨(J67 l0 x9_2).f3.f0, (J67 l0 x9_2).f3.f1, (J67 l0 x9_2).f3.f2, (J67 l0 x9_2).f3.f3⟩ : S36)⟩ : S67) (Kd.V_reads' (Kd.V_mono (ok' := (fun k_ => ((fun k_ => (P0_ k_ ∨ w.heap.size ≤ k_) ∧ some k_ ≠ (.slice (some ad303) x6_1.length co37 : Value).ownBlock)) k_ ∧ some k_ ≠ (u8 : Value).ownBlock)) (HL304_9.out) (fun k_ hk => ⟨⟨hk.1, hk.2.1⟩, hk.2.2⟩))).2.1 (Kd.V_F (Kd.V_mono (ok' := (fun k_ => ((fun k_ => (P0_ k_ ∨ w.heap.size ≤ k_) ∧ some k_ ≠ (.slice (some ad303) x6_1.length co37 : Value).ownBlock)) k_ ∧ some k_ ≠ (u8 : Value).ownBlock)) (HL304_9.out) (fun k_ hk => ⟨⟨hk.1, hk.2.1⟩, hk.2.2⟩))))); (case aB => exact (skB HB.out)); (case aF => exact (fun k_ hk => ⟨(.inr (Nat.le_trans (below_size (skB HB.out)) hk)), Kd.fresh' (Kd.R_lt (skR HO_6.out)) k_ hk⟩)); (case aO => exact (by (with_reducible repeat (first | apply Kd.N_alloc | apply Kd.N_drewN | apply Kd.N_drew)); exact HO_8.out)); (case aS => exact (below_size (skB HB.out))); (case aL => have := LMc36.out; omega); intro v306 w38 ho hb hg hat; rw [← Ny305.out] at ho; have n0_ := asd (Kd.V_afterv (ok := (fun k_ => (P0_ k_ ∨ w.heap.size ≤ k_) ∧ some k_ ≠ (.slice (some ad303) x6_1.length co37 : Value).ownBlock)) (by (with_reducible repeat (first | apply Kd.V_alloc | apply Kd.V_drewN | apply Kd.V_drew)); exact Kd.V_mono HO_0.out (fun _ hk => ⟨⟨hk.1, hk.2.1⟩, hk.2.2⟩)) hg hat); have n1_ := asd (Kd.R_over' (skR HO_6.out) (Kd.N_typed (by (with_reducible repeat (first | apply Kd.N_alloc | apply Kd.N_drewN | apply Kd.N_drew)); exact HO_8.out)) (by decide) hg); have n2_ := asd (Kd.V_afterv (ok := (fun k_ => (P0_ k_ ∨ w.heap.size ≤ k_) ∧ some k_ ≠ (.slice (some ad303) x6_1.length co37 : Value).ownBlock)) (by (with_reducible repeat (first | apply Kd.V_alloc | apply Kd.V_drewN | apply Kd.V_drew)); exact Kd.V_mono HL304_9.out (fun _ hk => ⟨⟨hk.1, hk.2.1⟩, hk.2.2⟩)) hg hat); have n3_ := asd (hb); have n4_ := asd (ho); clear HO_0; clear HO_6; clear HL304_9; clear HB; clear HO_8; have HO_0 := n0_; have HO_6 := n1_; have HL304_9 := n2_; have HB := n3_; have HO307 := n4_; clear n0_ n1_ n2_ n3_ n4_; clear ho hb hg hat))
             go_roundg k2
             case measure => have := HK1.out; have := HK2.out; omega
             case rel => exact ⟨(y305), (wrap64 (x9_2 + 1)), rs, H', ⟨by have := HK1.out; have := HK2.out; omega⟩, ⟨by (with_reducible repeat (first | apply Kd.V_alloc | apply Kd.V_drewN | apply Kd.V_drew)); exact Kd.V_mono HO_0.out (fun _ hk => ⟨hk.1.1, ⟨hk.1.2, hk.2⟩⟩)⟩, ⟨skR HO_6.out⟩, ⟨by (with_reducible repeat (first | apply Kd.N_alloc | apply Kd.N_drewN | apply Kd.N_drew)); exact HO307.out⟩, ⟨skB HB.out⟩⟩
            ·
             rw [if_neg c36] at H
             exact absurd H (by simp)
           ·
            replace c35 := Bool.eq_false_iff.mpr c35
            subst c35
            have H1 : (larchref05_kept.l1 k2 l0 x6_1 x8_2 (wrap64 (x9_2 + 1))) = some r := by rw [if_neg (show ¬ (false = true) by decide)] at H; exact H
            clear H
            have H := H1
            clear H1
            have H' := asd H
            clear H
            obtain ⟨Ao39, co39, eo39⟩ := Kd.R_slice HO_6.out
            subst eo39
            have p303 : 0 ≤ (x9_2 : Int) := dt
            have q303 : x9_2 < (x6_1.length : Int) := dt
            obtain ⟨ad303, e303, hx303_0⟩ := Kd.at_bool (Kd.R_reads' HO_6.out).2.2 x9_2 p303 q303
            (try rw [← Nbq34.out] at hx303_0)
            cases e303
            replace p303 := eq_true p303
            replace q303 := eq_true q303
            go_wp2
            go_roundg k2
            case measure => have := HK1.out; have := HK2.out; omega
            case rel => exact ⟨(x8_2), (wrap64 (x9_2 + 1)), rs, H', ⟨by have := HK1.out; have := HK2.out; omega⟩, ⟨by (with_reducible repeat (first | apply Kd.V_alloc | apply Kd.V_drewN | apply Kd.V_drew)); exact HO_0.out⟩, ⟨skR HO_6.out⟩, ⟨by (with_reducible repeat (first | apply Kd.N_alloc | apply Kd.N_drewN | apply Kd.N_drew)); exact HO_8.out⟩, ⟨skB HB.out⟩⟩
          ·
           rw [if_neg c33] at H
           exact absurd H (by simp)
         ·
          rw [if_neg c32] at H
          exact absurd H (by simp)
        ·
         rw [if_neg c31] at H
         have c31b0 : decide (x9_2 < (l0.length : Int)) = false := decide_eq_false c31
         clear c31
         replace H := Option.bind_eq_some_iff.mp H
         obtain ⟨t308, A400, H⟩ := H
         replace H : (some t308) = some r := H
         have A40 := asd A400
         clear A400
         obtain rfl := Option.some.inj H
         obtain ⟨Ao41, co41, eo41⟩ := Kd.N_slice HO_8.out
         subst eo41
         go_wp2_with (first | ((with_reducible refine gate_callee (f := 43) rfl ?_); refine goesL_ (some 69) rfl rfl Try.func43 (by kernel_rfl) rfl #[.slice Ao41 x8_2.length co41] rfl ags ?_; (with_reducible refine (larchref05_CopyEvents.calls k2 _ _ x8_2 t308 _ ?side1 ?side2 A40.out).mono ?_); (case side1 => exact skC (Kd.N_reads' HO_8.out).2.2); (case side2 => exact (Kd.N_reads' HO_8.out).2.1); rintro e w42 ⟨v309, rfl, ho0, hb⟩; refine ⟨_, rfl, ?_⟩; have n0_ := asd (Kd.V_elder' (by (with_reducible repeat (first | apply Kd.V_alloc | apply Kd.V_drewN | apply Kd.V_drew)); exact HO_0.out) (Kd.S_base ho0) hb); have n1_ := asd (Kd.R_below (skR HO_6.out) hb); have n2_ := asd (Kd.N_elder' (by (with_reducible repeat (first | apply Kd.N_alloc | apply Kd.N_drewN | apply Kd.N_drew)); exact HO_8.out) (Kd.S_base ho0) hb); have n3_ := asd (Kd.N_lower (Kd.N_mono (ok' := fun k_ => (P0_ k_ ∨ w.heap.size ≤ k_) ∧ some k_ ≠ (v293 : Value).ownBlock ∧ some k_ ≠ (.slice Ao41 x8_2.length co41 : Value).ownBlock) (Kd.S_N (Kd.S_bound ho0)) (fun k_ hk_ => ⟨(.inr (Nat.le_trans (below_size (skB HB.out)) hk_.2.1)), (Kd.fresh' (Kd.R_lt (skR HO_6.out)) k_ hk_.2.1), (Kd.fresh' (Kd.N_lt (by (with_reducible repeat (first | apply Kd.N_alloc | apply Kd.N_drewN | apply Kd.N_drew)); exact HO_8.out)) k_ hk_.2.1)⟩)) (below_size (skB HB.out))); have n4_ := asd (below_step (skB HB.out) hb); clear HO_0; clear HO_6; clear HO_8; clear HB; have HO_0 := n0_; have HO_6 := n1_; have HO_8 := n2_; have HO310 := n3_; have HB := n4_; clear n0_ n1_ n2_ n3_ n4_; (try clear hb); (try clear hb2); (try clear hk); (try clear hi); (try clear ho0)))
         go_ret
         exact ⟨_, re, by (with_reducible repeat (first | apply Kd.N_alloc | apply Kd.N_drewN | apply Kd.N_drew)); exact Kd.N_mono HO310.out (fun _ hk => hk.1), skB HB.out⟩
  ·
   rw [if_neg c5] at H
   exact absurd H (by simp)
 ·
  rw [if_neg c4] at H
  exact absurd H (by simp)
end Go.Proofs.Ytagdkmcgepidoaa.P
/- F43 -/
namespace Go.Proofs.Ytagdkmcgepidoaa.P
open Go.RowKit Go.Proofs.YtagdkmcgepidoaaW.PrintWords Go.Proofs.YtagdkmcgepidoaaW.PrintLast Go.Proofs.YtagdkmcgepidoaaW.PrintMore
attribute [local go_sem] max2_int min2_int max_two min_two max_three min_three max_four min_four   -- for this text's walks alone
set_option linter.unusedVariables false
set_option linter.unusedSimpArgs false
def larchref05_Cut.l0 : Nat → List (S67) → Int → List (S76) → List Bool → Int → Option ((List (S67)) × Int)
 | 0, _, _, _, _, _ => none
 | k + 1, x0, x1, x6, x8, x9 => if x9 < (x6.length : Int) then (if 0 ≤ x9 then (if x9 < (x8.length : Int) then (larchref05_Cut.l0 k x0 x1 x6 (x8.set (x9 : Int).toNat (decide (x9 < x1))) (wrap64 (x9 + 1))) else (none)) else (none)) else ((larchref05_kept.f k x0 x8).bind fun t319 => (some (t319, 0)))
def larchref05_Cut.f (k : Nat) (l0 : List (S67)) (a1 : Int) : Option ((List (S67)) × Int) := (larchref05_Calls.f k l0).bind fun bt311 => (if bt311.2 = 0 then (if a1 < 0 then (some (([] : List (S67)), 1)) else (if 0 ≤ (bt311.1.length : Int) then (if ((bt311.1.length : Int) : Int).toNat ≤ 281474976710656 then (larchref05_Cut.l0 k l0 a1 bt311.1 (List.replicate ((bt311.1.length : Int) : Int).toNat false) 0) else (none)) else (none))) else (some (([] : List (S67)), bt311.2)))
set_option maxHeartbeats 8000000 in
set_option maxRecDepth 100000 in
theorem larchref05_Cut.calls (k : Nat) (P0_ : Nat → Prop) (A0 : Option Addr) (c0 : Nat) (l0 : List (S67)) (a1 : Int) (r1 : List (S67)) (r2 : Int) (w : World) (hs0 : Kd.V k67 67 w w.heap.size (fun k_ => P0_ k_) (.slice A0 l0.length c0) l0) (h : larchref05_Cut.f k l0 a1 = some (r1, r2)) :
  Calls Try.prog 31 #[.slice A0 l0.length c0, .int .i64 a1] w fun e w' => ∃ v0_ : Value, e = .returned (.tuple #[v0_, .int .i64 r2]) ∧ Kd.N k67 67 w' w.heap.size (fun k_ => (P0_ k_ ∨ w.heap.size ≤ k_)) v0_ r1 ∧ Below w.heap.size w w' := by
 have HO0 := asd (show Kd.V k67 67 w w.heap.size (fun k_ => (P0_ k_ ∨ w.heap.size ≤ k_)) (.slice A0 l0.length c0) l0 from Kd.V_mono hs0 (fun k_ hk => .inl hk))
 have HB := asd (Below.refl w.heap.size w)
 have H : ((larchref05_Calls.f k l0).bind fun bt311 => (if bt311.2 = 0 then (if a1 < 0 then (some (([] : List (S67)), 1)) else (if 0 ≤ (bt311.1.length : Int) then (if ((bt311.1.length : Int) : Int).toNat ≤ 281474976710656 then (larchref05_Cut.l0 k l0 a1 bt311.1 (List.replicate ((bt311.1.length : Int) : Int).toNat false) 0) else (none)) else (none))) else (some (([] : List (S67)), bt311.2)))) = some (r1, r2) := h
 clear h
 replace H := Option.bind_eq_some_iff.mp H
 obtain ⟨⟨t311, t312⟩, A30, H⟩ := H
 replace H : (if t312 = 0 then (if a1 < 0 then (some (([] : List (S67)), 1)) else (if 0 ≤ (t311.length : Int) then (if ((t311.length : Int) : Int).toNat ≤ 281474976710656 then (larchref05_Cut.l0 k l0 a1 t311 (List.replicate ((t311.length : Int) : Int).toNat false) 0) else (none)) else (none))) else (some (([] : List (S67)), t312))) = some (r1, r2) := H
 have A3 := asd A30
 clear A30
 by_cases c4 : t312 = 0
 ·
  rw [if_pos c4] at H
  have c4b0 : (t312 == 0) = true := beq_iff_eq.mpr c4
  have c4b1 : (t312 != 0) = false := bne_eq_false_iff_eq.mpr c4
  clear c4
  by_cases c5 : a1 < 0
  ·
   rw [if_pos c5] at H
   have c5b0 : decide (a1 < 0) = true := decide_eq_true c5
   clear c5
   simp only [Option.some.injEq, Prod.mk.injEq] at H
   obtain ⟨rfl, rfl⟩ := H
   go_enter Try.func31, Try.ntmps31
   go_wp2_with (first | ((with_reducible refine gate_callee (f := 38) rfl ?_); refine goesL_ (some 12) rfl rfl Try.func38 (by kernel_rfl) rfl #[.slice A0 l0.length c0] rfl ags ?_; (with_reducible refine (larchref05_Calls.calls k _ _ l0 t311 t312 _ ?side1 ?side2 A3.out).mono ?_); (case side1 => exact skC (Kd.V_reads' HO0.out).2.2); (case side2 => exact (Kd.V_reads' HO0.out).2.1); rintro e w6 ⟨v313, rfl, ho0, hb⟩; refine ⟨_, rfl, ?_⟩; have n0_ := asd (Kd.V_elder' (by (with_reducible repeat (first | apply Kd.V_alloc | apply Kd.V_drewN | apply Kd.V_drew)); exact HO0.out) (Kd.S_base ho0) hb); have n1_ := asd (Kd.N_lower (Kd.N_mono (ok' := fun k_ => (P0_ k_ ∨ w.heap.size ≤ k_)) (Kd.S_N (Kd.S_bound ho0)) (fun k_ hk_ => (.inr (Nat.le_trans (below_size (skB HB.out)) hk_.2.1)))) (below_size (skB HB.out))); have n2_ := asd (below_step (skB HB.out) hb); clear HO0; clear HB; have HO0 := n0_; have HO314 := n1_; have HB := n2_; clear n0_ n1_ n2_; (try clear hb); (try clear hb2); (try clear hk); (try clear hi); (try clear ho0)))
   go_ret2
   exact ⟨_, re, by first | exact Kd.S_nil _ _ _ _ _ | exact Kd.N_nil _ _ _ _ _ | exact Kd.V_nil _ _ _ _ _ | exact Kd.Q_nil _ _ _ _ _ | exact Kd.R_nil _ _ _ _ _, skB HB.out⟩
  ·
   rw [if_neg c5] at H
   have c5b0 : decide (a1 < 0) = false := decide_eq_false c5
   clear c5
   by_cases c7 : 0 ≤ (t311.length : Int)
   ·
    rw [if_pos c7] at H
    have c7b0 := eq_true c7
    have c7b1 : decide (0 ≤ (t311.length : Int)) = true := decide_eq_true c7
    clear c7
    by_cases c8 : ((t311.length : Int) : Int).toNat ≤ 281474976710656
    ·
     rw [if_pos c8] at H
     have c8b0 := eq_true c8
     have c8b1 : decide (((t311.length : Int) : Int).toNat ≤ 281474976710656) = true := decide_eq_true c8
     clear c8
     obtain ⟨y315, hy315⟩ : ∃ y_ : List Bool, y_ = (List.replicate ((t311.length : Int) : Int).toNat false) := ⟨_, rfl⟩
     replace H : (larchref05_Cut.l0 k l0 a1 t311 y315 0) = some (r1, r2) := by first | (rw [hy315]; with_reducible exact H) | (have H2_ := (Option.bind_some _ _).symm.trans H; rw [hy315]; with_reducible exact H2_) | (have H2_ := (Option.bind_some _ _).symm.trans H; with_reducible exact H2_) | with_reducible exact H | (rw [hy315]; exact H) | exact H
     have Ny315 := asd hy315
     clear hy315
     have H' := asd H
     clear H
     go_enter Try.func31, Try.ntmps31
     go_wp2_with (first | ((with_reducible refine gate_callee (f := 38) rfl ?_); refine goesL_ (some 12) rfl rfl Try.func38 (by kernel_rfl) rfl #[.slice A0 l0.length c0] rfl ags ?_; (with_reducible refine (larchref05_Calls.calls k _ _ l0 t311 t312 _ ?side1 ?side2 A3.out).mono ?_); (case side1 => exact skC (Kd.V_reads' HO0.out).2.2); (case side2 => exact (Kd.V_reads' HO0.out).2.1); rintro e w9 ⟨v313, rfl, ho0, hb⟩; refine ⟨_, rfl, ?_⟩; have n0_ := asd (Kd.V_elder' (by (with_reducible repeat (first | apply Kd.V_alloc | apply Kd.V_drewN | apply Kd.V_drew)); exact HO0.out) (Kd.S_base ho0) hb); have n1_ := asd (Kd.N_lower (Kd.N_mono (ok' := fun k_ => (P0_ k_ ∨ w.heap.size ≤ k_)) (Kd.S_N (Kd.S_bound ho0)) (fun k_ hk_ => (.inr (Nat.le_trans (below_size (skB HB.out)) hk_.2.1)))) (below_size (skB HB.out))); have n2_ := asd (below_step (skB HB.out) hb); clear HO0; clear HB; have HO0 := n0_; have HO314 := n1_; have HB := n2_; clear n0_ n1_ n2_; (try clear hb); (try clear hb2); (try clear hk); (try clear hi); (try clear ho0); obtain ⟨Ao10, co10, eo10⟩ := Kd.N_slice HO314.out; subst eo10) | ((with_reducible refine gate_dst (N := 22) rfl ?_); refine Kd.R_make Kd.bool _ 4 rfl (N := 22) rfl 31 _ _ rfl (t311.length : Int) rfl rfl Try.underlying31 (.bool false) 1 info4 rfl (by decide) (by omega) false (ok := fun _ => True) (okp := fun _ => True) rfl (fun _ hk => hk) trivial dt (Nat.le_trans (Nat.mul_le_mul_right _ (dt : (t311.length : Int).toNat ≤ 281474976710656)) (by omega)) (Below.refl _ _) (Nat.le_refl _) ?_; intro v316 w11 ho12 hb hg_ hnew_; clear hg_ hnew_; (first | rw [← Ny315.out] at ho12 | (simp only [Int.reduceToNat] at ho12; rw [← Ny315.out] at ho12)); have n0_ := asd (Kd.V_elder' (by (with_reducible repeat (first | apply Kd.V_alloc | apply Kd.V_drewN | apply Kd.V_drew)); exact HO0.out) (Kd.R_base ho12) hb); have n1_ := asd (Kd.N_elder' (by (with_reducible repeat (first | apply Kd.N_alloc | apply Kd.N_drewN | apply Kd.N_drew)); exact HO314.out) (Kd.R_base ho12) hb); have n2_ := asd (Kd.R_lower (Kd.R_newM (M := fun k_ => (w.heap.size ≤ k_)) ho12 (below_size (skB HB.out)) (fun k_ h_ => h_)) (below_size (skB HB.out))); have n3_ := asd (below_step (skB HB.out) hb); clear HO0; clear HO314; clear HB; have HO0 := n0_; have HO314 := n1_; have HO317 := n2_; have HB := n3_; clear n0_ n1_ n2_ n3_; clear hb ho12))
     go_loopg [9] k (fun kq v9 w' => ∃ (x8_1 : List Bool) (x9_1 : Int), v9 = .int .i64 x9_1 ∧ Aside0 (larchref05_Cut.l0 kq l0 a1 t311 x8_1 x9_1 = some (r1, r2)) ∧ Aside0 (kq ≤ k) ∧ Aside0 (Kd.V k67 67 w' w.heap.size (fun k_ => (P0_ k_ ∨ w.heap.size ≤ k_) ∧ some k_ ≠ ((.slice Ao10 t311.length co10) : Value).ownBlock ∧ some k_ ≠ (v316 : Value).ownBlock) (.slice A0 l0.length c0) l0) ∧ Aside0 (Kd.N k76 76 w' w.heap.size (fun k_ => (P0_ k_ ∨ w.heap.size ≤ k_) ∧ some k_ ≠ (v316 : Value).ownBlock) (.slice Ao10 t311.length co10) t311) ∧ Aside0 (Kd.R Kd.bool 4 w' w.heap.size (fun k_ => (w.heap.size ≤ k_)) v316 x8_1) ∧ Aside0 (Below w.heap.size w w'))
     case atStart => exact ⟨(y315), (0), rs, H', ⟨Nat.le_refl _⟩, ⟨by (with_reducible repeat (first | apply Kd.V_alloc | apply Kd.V_drewN | apply Kd.V_drew)); exact Kd.V_mono HO0.out (fun _ hk => ⟨hk.1.1, ⟨hk.1.2, hk.2⟩⟩)⟩, ⟨by (with_reducible repeat (first | apply Kd.N_alloc | apply Kd.N_drewN | apply Kd.N_drew)); exact HO314.out⟩, ⟨skR (Kd.R_mono HO317.out (fun _ hk => hk.1))⟩, ⟨skB HB.out⟩⟩
     case round =>
      clear H'
      try clear p2
      try clear c3
      try clear c4
      try clear c4b0
      try clear c4b1
      try clear c5
      try clear c5b0
      try clear c7
      try clear c7b0
      try clear c7b1
      try clear c8
      try clear c8b0
      try clear c8b1
      obtain ⟨x8_1, x9_1, rfl, HA, HK1, HO_0, HO_6, HO_8, HB⟩ := hrel
      cases gk with
      | zero => exact absurd HA.out (by simp [larchref05_Cut.l0])
      | succ k1 =>
       have H := HA.out
       clear HA
       simp only [larchref05_Cut.l0] at H
       by_cases c13 : x9_1 < (t311.length : Int)
       ·
        rw [if_pos c13] at H
        have c13b0 : decide (x9_1 < (t311.length : Int)) = true := decide_eq_true c13
        clear c13
        by_cases c14 : 0 ≤ x9_1
        ·
         rw [if_pos c14] at H
         have c14b0 : decide (0 ≤ x9_1) = true := decide_eq_true c14
         clear c14
         by_cases c15 : x9_1 < (x8_1.length : Int)
         ·
          rw [if_pos c15] at H
          have c15b0 : decide (x9_1 < (x8_1.length : Int)) = true := decide_eq_true c15
          clear c15
          obtain ⟨y318, hy318⟩ : ∃ y_ : List Bool, y_ = (x8_1.set (x9_1 : Int).toNat (decide (x9_1 < a1))) := ⟨_, rfl⟩
          replace H : (larchref05_Cut.l0 k1 l0 a1 t311 y318 (wrap64 (x9_1 + 1))) = some (r1, r2) := by first | (rw [hy318]; with_reducible exact H) | (have H2_ := (Option.bind_some _ _).symm.trans H; rw [hy318]; with_reducible exact H2_) | (have H2_ := (Option.bind_some _ _).symm.trans H; with_reducible exact H2_) | with_reducible exact H | (rw [hy318]; exact H) | exact H
          have Ny318 := asd hy318
          clear hy318
          have H' := asd H
          clear H
          have p16 : 0 ≤ (x9_1 : Int) := dt
          have q16 : (x9_1 : Int) < ((x8_1.length : Int) : Int) := dt
          obtain ⟨go16, co16, eo16, gb16, gl16, cl16, HG16⟩ := Kd.R_form HO_8.out (by omega)
          (first | cases eo16 | (injection eo16 with ea_ en_ ec_; (first | subst ea_ | (injection ea_ with ea_; subst ea_)); subst ec_; clear en_))
          have GB16 := asd gb16
          have GG16 := asd HG16
          clear gb16 gl16 HG16
          obtain ⟨hx16_0, hf16_0⟩ := Kd.R_celln false HO_8.out (x9_1 : Int) p16 q16
          replace p16 := eq_true p16
          replace q16 := eq_true q16
          have HP17 := Kd.R_putg HO_8.out (x9_1 : Int) (decide (x9_1 < a1))
          go_wp2_with (first | ((with_reducible refine gate_store (t := 4) (p := 34) rfl ?_); refine store_event (t := 4) (p := 34) (v := ?vo_w18) (w1 := (wr.setCell ⟨go16, (x9_1 : Int).toNat, none⟩ (.bool (decide (x9_1 < a1))))) ?hg ?ho ?hn ?hr ?_; (case ho => rfl); (case hg => rfl); (case hn => rfl); (case hr => first | (go_simp; done) | (go_simp; rfl)); intro w18 hw; have hg : wr.grownBy w18 (some go16) := (by rw [hw]; exact HP17.2); have hp_ : Kd.R Kd.bool 4 w18 w.heap.size (fun k_ => (w.heap.size ≤ k_)) (.slice (some ⟨go16, 0, none⟩) x8_1.length co16) y318 := (by rw [hw, Ny318.out]; exact HP17.1); clear HP17; have n0_ := asd (Kd.V_afterv (v := (.slice (some ⟨go16, 0, none⟩) x8_1.length co16)) (v1 := (.slice (some ⟨go16, 0, none⟩) x8_1.length co16)) (ok := (fun k_ => (P0_ k_ ∨ w.heap.size ≤ k_) ∧ some k_ ≠ (.slice Ao10 t311.length co10 : Value).ownBlock)) (by (with_reducible repeat (first | apply Kd.V_alloc | apply Kd.V_drewN | apply Kd.V_drew)); exact Kd.V_mono HO_0.out (fun _ hk => ⟨⟨hk.1, hk.2.1⟩, hk.2.2⟩)) hg (.inl rfl)); have n1_ := asd (Kd.N_afterv (v := (.slice (some ⟨go16, 0, none⟩) x8_1.length co16)) (v1 := (.slice (some ⟨go16, 0, none⟩) x8_1.length co16)) (ok := (fun k_ => (P0_ k_ ∨ w.heap.size ≤ k_))) (by (with_reducible repeat (first | apply Kd.N_alloc | apply Kd.N_drewN | apply Kd.N_drew)); exact HO_6.out) hg (.inl rfl)); have n2_ := asd (hp_); have n3_ := asd ((by rw [hw]; exact below_set (HB.out) GB16.out : Below w.heap.size w w18)); clear HO_0; clear HO_6; clear HO_8; clear HB; have HO_0 := n0_; have HO_6 := n1_; have HO_8 := n2_; have HB := n3_; clear n0_ n1_ n2_ n3_; clear hg hw hp_))
          go_roundg k1
          case measure => have := HK1.out; omega
          case rel => exact ⟨(y318), (wrap64 (x9_1 + 1)), rs, H', ⟨by have := HK1.out; omega⟩, ⟨by (with_reducible repeat (first | apply Kd.V_alloc | apply Kd.V_drewN | apply Kd.V_drew)); exact Kd.V_mono HO_0.out (fun _ hk => ⟨hk.1.1, ⟨hk.1.2, hk.2⟩⟩)⟩, ⟨by (with_reducible repeat (first | apply Kd.N_alloc | apply Kd.N_drewN | apply Kd.N_drew)); exact HO_6.out⟩, ⟨skR HO_8.out⟩, ⟨skB HB.out⟩⟩
         ·
          rw [if_neg c15] at H
          exact absurd H (by simp)
        ·
         rw [if_neg c14] at H
         exact absurd H (by simp)
       ·
        rw [if_neg c13] at H
        have c13b0 : decide (x9_1 < (t311.length : Int)) = false := decide_eq_false c13
        clear c13
        replace H := Option.bind_eq_some_iff.mp H
        obtain ⟨t319, A190, H⟩ := H
        replace H : (some (t319, 0)) = some (r1, r2) := H
        have A19 := asd A190
        clear A190
        simp only [Option.some.injEq, Prod.mk.injEq] at H
        obtain ⟨rfl, rfl⟩ := H
        obtain ⟨Ao20, co20, eo20⟩ := Kd.R_slice HO_8.out
        subst eo20
        go_wp2_with (first | ((with_reducible refine gate_callee (f := 56) rfl ?_); refine goesL_ (some 37) rfl rfl Try.func56 (by kernel_rfl) rfl #[.slice A0 l0.length c0, .slice Ao20 x8_1.length co20] rfl ags ?_; (with_reducible refine (larchref05_kept.calls k1 (fun k_ => ((P0_ k_ ∨ w.heap.size ≤ k_) ∧ (some k_ ≠ (.slice Ao10 t311.length co10 : Value).ownBlock ∧ some k_ ≠ (.slice Ao20 x8_1.length co20 : Value).ownBlock))) _ _ l0 _ _ x8_1 t319 _ ?side1 ?side2 ?side3 A19.out).mono ?_); (case side1 => exact HO_0.out); (case side2 => exact skC (Kd.R_reads' HO_8.out).2.2); (case side3 => exact (Kd.R_reads' HO_8.out).2.1); rintro e w21 ⟨v320, rfl, ho0, hb⟩; refine ⟨_, rfl, ?_⟩; have n0_ := asd (Kd.V_elder' (by (with_reducible repeat (first | apply Kd.V_alloc | apply Kd.V_drewN | apply Kd.V_drew)); exact HO_0.out) (Kd.N_base ho0) hb); have n1_ := asd (Kd.N_elder' (by (with_reducible repeat (first | apply Kd.N_alloc | apply Kd.N_drewN | apply Kd.N_drew)); exact HO_6.out) (Kd.N_base ho0) hb); have n2_ := asd (Kd.R_below (skR HO_8.out) hb); have n3_ := asd (Kd.N_lower (Kd.N_mono (ok' := fun k_ => (P0_ k_ ∨ w.heap.size ≤ k_) ∧ some k_ ≠ (.slice Ao10 t311.length co10 : Value).ownBlock ∧ some k_ ≠ (.slice Ao20 x8_1.length co20 : Value).ownBlock) ho0 (fun k_ hk_ => ⟨Or.elim hk_ (fun hs_ => hs_.1) (fun hn_ => (.inr (Nat.le_trans (below_size (skB HB.out)) hn_))), Or.elim hk_ (fun hs_ => hs_.2.1) (fun hn_ => (Kd.fresh' (Kd.N_lt (by (with_reducible repeat (first | apply Kd.N_alloc | apply Kd.N_drewN | apply Kd.N_drew)); exact HO_6.out)) k_ hn_)), Or.elim hk_ (fun hs_ => hs_.2.2) (fun hn_ => (Kd.fresh' (Kd.R_lt (skR HO_8.out)) k_ hn_))⟩)) (below_size (skB HB.out))); have n4_ := asd (below_step (skB HB.out) hb); clear HO_0; clear HO_6; clear HO_8; clear HB; have HO_0 := n0_; have HO_6 := n1_; have HO_8 := n2_; have HO321 := n3_; have HB := n4_; clear n0_ n1_ n2_ n3_ n4_; (try clear hb); (try clear hb2); (try clear hk); (try clear hi); (try clear ho0)))
        go_ret2
        exact ⟨_, re, by (with_reducible repeat (first | apply Kd.N_alloc | apply Kd.N_drewN | apply Kd.N_drew)); exact Kd.N_mono HO321.out (fun _ hk => hk.1), skB HB.out⟩
    ·
     rw [if_neg c8] at H
     exact absurd H (by simp)
   ·
    rw [if_neg c7] at H
    exact absurd H (by simp)
 ·
  rw [if_neg c4] at H
  have c4b0 : (t312 == 0) = false := beq_eq_false_iff_ne.mpr c4
  have c4b1 : (t312 != 0) = true := bne_iff_ne.mpr c4
  simp only [Option.some.injEq, Prod.mk.injEq] at H
  obtain ⟨rfl, rfl⟩ := H
  go_enter Try.func31, Try.ntmps31
  go_wp2_with (first | ((with_reducible refine gate_callee (f := 38) rfl ?_); refine goesL_ (some 12) rfl rfl Try.func38 (by kernel_rfl) rfl #[.slice A0 l0.length c0] rfl ags ?_; (with_reducible refine (larchref05_Calls.calls k _ _ l0 t311 t312 _ ?side1 ?side2 A3.out).mono ?_); (case side1 => exact skC (Kd.V_reads' HO0.out).2.2); (case side2 => exact (Kd.V_reads' HO0.out).2.1); rintro e w22 ⟨v313, rfl, ho0, hb⟩; refine ⟨_, rfl, ?_⟩; have n0_ := asd (Kd.V_elder' (by (with_reducible repeat (first | apply Kd.V_alloc | apply Kd.V_drewN | apply Kd.V_drew)); exact HO0.out) (Kd.S_base ho0) hb); have n1_ := asd (Kd.N_lower (Kd.N_mono (ok' := fun k_ => (P0_ k_ ∨ w.heap.size ≤ k_)) (Kd.S_N (Kd.S_bound ho0)) (fun k_ hk_ => (.inr (Nat.le_trans (below_size (skB HB.out)) hk_.2.1)))) (below_size (skB HB.out))); have n2_ := asd (below_step (skB HB.out) hb); clear HO0; clear HB; have HO0 := n0_; have HO314 := n1_; have HB := n2_; clear n0_ n1_ n2_; (try clear hb); (try clear hb2); (try clear hk); (try clear hi); (try clear ho0)))
  go_ret2
  exact ⟨_, re, by first | exact Kd.S_nil _ _ _ _ _ | exact Kd.N_nil _ _ _ _ _ | exact Kd.V_nil _ _ _ _ _ | exact Kd.Q_nil _ _ _ _ _ | exact Kd.R_nil _ _ _ _ _, skB HB.out⟩
end Go.Proofs.Ytagdkmcgepidoaa.P
/- F46 -/
namespace Go.Proofs.Ytagdkmcgepidoaa.P
open Go.RowKit Go.Proofs.YtagdkmcgepidoaaW.PrintWords Go.Proofs.YtagdkmcgepidoaaW.PrintLast Go.Proofs.YtagdkmcgepidoaaW.PrintMore
attribute [local go_sem] max2_int min2_int max_two min_two max_three min_three max_four min_four   -- for this text's walks alone
set_option linter.unusedVariables false
set_option linter.unusedSimpArgs false
def larchref05_Done.l0 : Nat → List (S67) → List (S76) → List Bool → Int → Option ((List (S67)) × Int)
 | 0, _, _, _, _ => none
 | k + 1, x0, x4, x6, x7 => if x7 < (x4.length : Int) then (if 0 ≤ x7 then (if x7 < (x6.length : Int) then (larchref05_Done.l0 k x0 x4 (x6.set (x7 : Int).toNat (((J76 x4 x7).f4) != (-1))) (wrap64 (x7 + 1))) else (none)) else (none)) else ((larchref05_kept.f k x0 x6).bind fun t338 => (some (t338, 0)))
def larchref05_Done.f (k : Nat) (l0 : List (S67)) : Option ((List (S67)) × Int) := (larchref05_Calls.f k l0).bind fun bt329 => (if bt329.2 = 0 then (if 0 ≤ (bt329.1.length : Int) then (if ((bt329.1.length : Int) : Int).toNat ≤ 281474976710656 then (larchref05_Done.l0 k l0 bt329.1 (List.replicate ((bt329.1.length : Int) : Int).toNat false) 0) else (none)) else (none)) else (some (([] : List (S67)), bt329.2)))
set_option maxHeartbeats 8000000 in
set_option maxRecDepth 100000 in
theorem larchref05_Done.calls (k : Nat) (P0_ : Nat → Prop) (A0 : Option Addr) (c0 : Nat) (l0 : List (S67)) (r1 : List (S67)) (r2 : Int) (w : World) (hs0 : Kd.V k67 67 w w.heap.size (fun k_ => P0_ k_) (.slice A0 l0.length c0) l0) (h : larchref05_Done.f k l0 = some (r1, r2)) :
  Calls Try.prog 33 #[.slice A0 l0.length c0] w fun e w' => ∃ v0_ : Value, e = .returned (.tuple #[v0_, .int .i64 r2]) ∧ Kd.N k67 67 w' w.heap.size (fun k_ => (P0_ k_ ∨ w.heap.size ≤ k_)) v0_ r1 ∧ Below w.heap.size w w' := by
 have HO0 := asd (show Kd.V k67 67 w w.heap.size (fun k_ => (P0_ k_ ∨ w.heap.size ≤ k_)) (.slice A0 l0.length c0) l0 from Kd.V_mono hs0 (fun k_ hk => .inl hk))
 have HB := asd (Below.refl w.heap.size w)
 have H : ((larchref05_Calls.f k l0).bind fun bt329 => (if bt329.2 = 0 then (if 0 ≤ (bt329.1.length : Int) then (if ((bt329.1.length : Int) : Int).toNat ≤ 281474976710656 then (larchref05_Done.l0 k l0 bt329.1 (List.replicate ((bt329.1.length : Int) : Int).toNat false) 0) else (none)) else (none)) else (some (([] : List (S67)), bt329.2)))) = some (r1, r2) := h
 clear h
 replace H := Option.bind_eq_some_iff.mp H
 obtain ⟨⟨t329, t330⟩, A20, H⟩ := H
 replace H : (if t330 = 0 then (if 0 ≤ (t329.length : Int) then (if ((t329.length : Int) : Int).toNat ≤ 281474976710656 then (larchref05_Done.l0 k l0 t329 (List.replicate ((t329.length : Int) : Int).toNat false) 0) else (none)) else (none)) else (some (([] : List (S67)), t330))) = some (r1, r2) := H
 have A2 := asd A20
 clear A20
 by_cases c3 : t330 = 0
 ·
  rw [if_pos c3] at H
  have c3b0 : (t330 == 0) = true := beq_iff_eq.mpr c3
  have c3b1 : (t330 != 0) = false := bne_eq_false_iff_eq.mpr c3
  clear c3
  by_cases c4 : 0 ≤ (t329.length : Int)
  ·
   rw [if_pos c4] at H
   have c4b0 := eq_true c4
   have c4b1 : decide (0 ≤ (t329.length : Int)) = true := decide_eq_true c4
   clear c4
   by_cases c5 : ((t329.length : Int) : Int).toNat ≤ 281474976710656
   ·
    rw [if_pos c5] at H
    have c5b0 := eq_true c5
    have c5b1 : decide (((t329.length : Int) : Int).toNat ≤ 281474976710656) = true := decide_eq_true c5
    clear c5
    obtain ⟨y333, hy333⟩ : ∃ y_ : List Bool, y_ = (List.replicate ((t329.length : Int) : Int).toNat false) := ⟨_, rfl⟩
    replace H : (larchref05_Done.l0 k l0 t329 y333 0) = some (r1, r2) := by first | (rw [hy333]; with_reducible exact H) | (have H2_ := (Option.bind_some _ _).symm.trans H; rw [hy333]; with_reducible exact H2_) | (have H2_ := (Option.bind_some _ _).symm.trans H; with_reducible exact H2_) | with_reducible exact H | (rw [hy333]; exact H) | exact H
    have Ny333 := asd hy333
    clear hy333
    have H' := asd H
    clear H
    go_enter Try.func33, Try.ntmps33
    go_wp2_with (first | ((with_reducible refine gate_callee (f := 38) rfl ?_); refine goesL_ (some 10) rfl rfl Try.func38 (by kernel_rfl) rfl #[.slice A0 l0.length c0] rfl ags ?_; (with_reducible refine (larchref05_Calls.calls k _ _ l0 t329 t330 _ ?side1 ?side2 A2.out).mono ?_); (case side1 => exact skC (Kd.V_reads' HO0.out).2.2); (case side2 => exact (Kd.V_reads' HO0.out).2.1); rintro e w6 ⟨v331, rfl, ho0, hb⟩; refine ⟨_, rfl, ?_⟩; have n0_ := asd (Kd.V_elder' (by (with_reducible repeat (first | apply Kd.V_alloc | apply Kd.V_drewN | apply Kd.V_drew)); exact HO0.out) (Kd.S_base ho0) hb); have n1_ := asd (Kd.N_lower (Kd.N_mono (ok' := fun k_ => (P0_ k_ ∨ w.heap.size ≤ k_)) (Kd.S_N (Kd.S_bound ho0)) (fun k_ hk_ => (.inr (Nat.le_trans (below_size (skB HB.out)) hk_.2.1)))) (below_size (skB HB.out))); have n2_ := asd (below_step (skB HB.out) hb); clear HO0; clear HB; have HO0 := n0_; have HO332 := n1_; have HB := n2_; clear n0_ n1_ n2_; (try clear hb); (try clear hb2); (try clear hk); (try clear hi); (try clear ho0); obtain ⟨Ao7, co7, eo7⟩ := Kd.N_slice HO332.out; subst eo7) | ((with_reducible refine gate_dst (N := 18) rfl ?_); refine Kd.R_make Kd.bool _ 4 rfl (N := 18) rfl 31 _ _ rfl (t329.length : Int) rfl rfl Try.underlying31 (.bool false) 1 info4 rfl (by decide) (by omega) false (ok := fun _ => True) (okp := fun _ => True) rfl (fun _ hk => hk) trivial dt (Nat.le_trans (Nat.mul_le_mul_right _ (dt : (t329.length : Int).toNat ≤ 281474976710656)) (by omega)) (Below.refl _ _) (Nat.le_refl _) ?_; intro v334 w8 ho9 hb hg_ hnew_; clear hg_ hnew_; (first | rw [← Ny333.out] at ho9 | (simp only [Int.reduceToNat] at ho9; rw [← Ny333.out] at ho9)); have n0_ := asd (Kd.V_elder' (by (with_reducible repeat (first | apply Kd.V_alloc | apply Kd.V_drewN | apply Kd.V_drew)); exact HO0.out) (Kd.R_base ho9) hb); have n1_ := asd (Kd.N_elder' (by (with_reducible repeat (first | apply Kd.N_alloc | apply Kd.N_drewN | apply Kd.N_drew)); exact HO332.out) (Kd.R_base ho9) hb); have n2_ := asd (Kd.R_lower (Kd.R_newM (M := fun k_ => (w.heap.size ≤ k_)) ho9 (below_size (skB HB.out)) (fun k_ h_ => h_)) (below_size (skB HB.out))); have n3_ := asd (below_step (skB HB.out) hb); clear HO0; clear HO332; clear HB; have HO0 := n0_; have HO332 := n1_; have HO335 := n2_; have HB := n3_; clear n0_ n1_ n2_ n3_; clear hb ho9))
    go_loopg [7] k (fun kq v7 w' => ∃ (x6_1 : List Bool) (x7_1 : Int), v7 = .int .i64 x7_1 ∧ Aside0 (larchref05_Done.l0 kq l0 t329 x6_1 x7_1 = some (r1, r2)) ∧ Aside0 (kq ≤ k) ∧ Aside0 (Kd.V k67 67 w' w.heap.size (fun k_ => (P0_ k_ ∨ w.heap.size ≤ k_) ∧ some k_ ≠ ((.slice Ao7 t329.length co7) : Value).ownBlock ∧ some k_ ≠ (v334 : Value).ownBlock) (.slice A0 l0.length c0) l0) ∧ Aside0 (Kd.N k76 76 w' w.heap.size (fun k_ => (P0_ k_ ∨ w.heap.size ≤ k_) ∧ some k_ ≠ (v334 : Value).ownBlock) (.slice Ao7 t329.length co7) t329) ∧ Aside0 (Kd.R Kd.bool 4 w' w.heap.size (fun k_ => (w.heap.size ≤ k_)) v334 x6_1) ∧ Aside0 (Below w.heap.size w w'))
    case atStart => exact ⟨(y333), (0), rs, H', ⟨Nat.le_refl _⟩, ⟨by (with_reducible repeat (first | apply Kd.V_alloc | apply Kd.V_drewN | apply Kd.V_drew)); exact Kd.V_mono HO0.out (fun _ hk => ⟨hk.1.1, ⟨hk.1.2, hk.2⟩⟩)⟩, ⟨by (with_reducible repeat (first | apply Kd.N_alloc | apply Kd.N_drewN | apply Kd.N_drew)); exact HO332.out⟩, ⟨skR (Kd.R_mono HO335.out (fun _ hk => hk.1))⟩, ⟨skB HB.out⟩⟩
    case round =>
     clear H'
     try clear p2
     try clear c3
     try clear c3b0
     try clear c3b1
     try clear c4
     try clear c4b0
     try clear c4b1
     try clear c5
     try clear c5b0
     try clear c5b1
     obtain ⟨x6_1, x7_1, rfl, HA, HK1, HO_0, HO_4, HO_6, HB⟩ := hrel
     cases gk with
     | zero => exact absurd HA.out (by simp [larchref05_Done.l0])
     | succ k1 =>
      have H := HA.out
      clear HA
      simp only [larchref05_Done.l0] at H
      by_cases c10 : x7_1 < (t329.length : Int)
      ·
       rw [if_pos c10] at H
       have c10b0 : decide (x7_1 < (t329.length : Int)) = true := decide_eq_true c10
       clear c10
       by_cases c11 : 0 ≤ x7_1
       ·
        rw [if_pos c11] at H
        have c11b0 : decide (0 ≤ x7_1) = true := decide_eq_true c11
        clear c11
        by_cases c12 : x7_1 < (x6_1.length : Int)
        ·
         rw [if_pos c12] at H
         have c12b0 : decide (x7_1 < (x6_1.length : Int)) = true := decide_eq_true c12
         clear c12
         obtain ⟨y337, hy337⟩ : ∃ y_ : List Bool, y_ = (x6_1.set (x7_1 : Int).toNat (((J76 t329 x7_1).f4) != (-1))) := ⟨_, rfl⟩
         replace H : (larchref05_Done.l0 k1 l0 t329 y337 (wrap64 (x7_1 + 1))) = some (r1, r2) := by first | (rw [hy337]; with_reducible exact H) | (have H2_ := (Option.bind_some _ _).symm.trans H; rw [hy337]; with_reducible exact H2_) | (have H2_ := (Option.bind_some _ _).symm.trans H; with_reducible exact H2_) | with_reducible exact H | (rw [hy337]; exact H) | exact H
         have Ny337 := asd hy337
         clear hy337
         have H' := asd H
         clear H
         have p336 : 0 ≤ (x7_1 : Int) := dt
         have q336 : x7_1 < (t329.length : Int) := dt
         obtain ⟨ad336, A336_8, c336_8, e336, hx336_0, hx336_1, hx336_2, hx336_3, hx336_4, hx336_5, hx336_6, hx336_7, hx336_8, hx336_9, hx336_10, hl336_8, hi336_8⟩ := at_T76 (Kd.N_reads' HO_4.out).2.2 x7_1 p336 q336
         cases e336
         obtain ⟨ce336, hce336, hMe336, hcc336⟩ := Kd.N_get HO_4.out z76 x7_1 p336 (by first | exact q336 | exact dt | (have e_ := (Kd.N_reads' HO_4.out).1; omega))
         obtain ⟨ua336_8, uc336_8, rfl, ul336_8, ge336_8⟩ := k76_openF hMe336
         have hv336_8 := hcc336 8 _ rfl
         rw [add_field _ _ 8 (by omega)] at hv336_8
         replace hv336_8 := Option.some.inj (hv336_8.symm.trans hx336_8)
         injection hv336_8 with hva_ hvn_ hvc_
         rw [hva_] at ge336_8
         rw [hvc_] at ul336_8
         have HL336_8 := asd (show Kd.V k70 70 _ w.heap.size _ _ ((J76 t329 x7_1).f2.f3) from Kd.V_mk ul336_8 ge336_8)
         clear hva_ hvn_ hvc_ ge336_8 ul336_8
         clear hcc336 hce336
         have HR336_8 := asd hi336_8
         have HC336_8 := asd hl336_8
         clear hi336_8 hl336_8
         replace p336 := eq_true p336
         replace q336 := eq_true q336
         have p13 : 0 ≤ (x7_1 : Int) := dt
         have q13 : (x7_1 : Int) < ((x6_1.length : Int) : Int) := dt
         obtain ⟨go13, co13, eo13, gb13, gl13, cl13, HG13⟩ := Kd.R_form HO_6.out (by omega)
         (first | cases eo13 | (injection eo13 with ea_ en_ ec_; (first | subst ea_ | (injection ea_ with ea_; subst ea_)); subst ec_; clear en_))
         have GB13 := asd gb13
         have GG13 := asd HG13
         clear gb13 gl13 HG13
         obtain ⟨hx13_0, hf13_0⟩ := Kd.R_celln false HO_6.out (x7_1 : Int) p13 q13
         replace p13 := eq_true p13
         replace q13 := eq_true q13
         have HP14 := Kd.R_putg HO_6.out (x7_1 : Int) (((J76 t329 x7_1).f4) != (-1))
         go_wp2_with (first | ((with_reducible refine gate_store (t := 4) (p := 33) rfl ?_); refine store_event (t := 4) (p := 33) (v := ?vo_w15) (w1 := (wr.setCell ⟨go13, (x7_1 : Int).toNat, none⟩ (.bool (((J76 t329 x7_1).f4) != (-1))))) ?hg ?ho ?hn ?hr ?_; (case ho => rfl); (case hg => rfl); (case hn => rfl); (case hr => first | (go_simp; done) | (go_simp; rfl)); intro w15 hw; have hg : wr.grownBy w15 (some go13) := (by rw [hw]; exact HP14.2); have hp_ : Kd.R Kd.bool 4 w15 w.heap.size (fun k_ => (w.heap.size ≤ k_)) (.slice (some ⟨go13, 0, none⟩) x6_1.length co13) y337 := (by rw [hw, Ny337.out]; exact HP14.1); clear HP14; have n0_ := asd (Kd.V_afterv (v := (.slice (some ⟨go13, 0, none⟩) x6_1.length co13)) (v1 := (.slice (some ⟨go13, 0, none⟩) x6_1.length co13)) (ok := (fun k_ => (P0_ k_ ∨ w.heap.size ≤ k_) ∧ some k_ ≠ (.slice (some ad336) t329.length co7 : Value).ownBlock)) (by (with_reducible repeat (first | apply Kd.V_alloc | apply Kd.V_drewN | apply Kd.V_drew)); exact Kd.V_mono HO_0.out (fun _ hk => ⟨⟨hk.1, hk.2.1⟩, hk.2.2⟩)) hg (.inl rfl)); have n1_ := asd (Kd.N_afterv (v := (.slice (some ⟨go13, 0, none⟩) x6_1.length co13)) (v1 := (.slice (some ⟨go13, 0, none⟩) x6_1.length co13)) (ok := (fun k_ => (P0_ k_ ∨ w.heap.size ≤ k_))) (by (with_reducible repeat (first | apply Kd.N_alloc | apply Kd.N_drewN | apply Kd.N_drew)); exact HO_4.out) hg (.inl rfl)); have n2_ := asd (hp_); have n3_ := asd (Kd.V_afterv (v := (.slice (some ⟨go13, 0, none⟩) x6_1.length co13)) (v1 := (.slice (some ⟨go13, 0, none⟩) x6_1.length co13)) (ok := (fun k_ => (P0_ k_ ∨ w.heap.size ≤ k_) ∧ some k_ ≠ (.slice (some ad336) t329.length co7 : Value).ownBlock)) (by (with_reducible repeat (first | apply Kd.V_alloc | apply Kd.V_drewN | apply Kd.V_drew)); exact Kd.V_mono HL336_8.out (fun _ hk => ⟨⟨hk.1.1, hk.2⟩, hk.1.2⟩)) hg (.inl rfl)); have n4_ := asd ((by rw [hw]; exact below_set (HB.out) GB13.out : Below w.heap.size w w15)); clear HO_0; clear HO_4; clear HO_6; clear HL336_8; clear HB; have HO_0 := n0_; have HO_4 := n1_; have HO_6 := n2_; have HL336_8 := n3_; have HB := n4_; clear n0_ n1_ n2_ n3_ n4_; clear hg hw hp_))
         go_roundg k1
         case measure => have := HK1.out; omega
         case rel => exact ⟨(y337), (wrap64 (x7_1 + 1)), rs, H', ⟨by have := HK1.out; omega⟩, ⟨by (with_reducible repeat (first | apply Kd.V_alloc | apply Kd.V_drewN | apply Kd.V_drew)); exact Kd.V_mono HO_0.out (fun _ hk => ⟨hk.1.1, ⟨hk.1.2, hk.2⟩⟩)⟩, ⟨by (with_reducible repeat (first | apply Kd.N_alloc | apply Kd.N_drewN | apply Kd.N_drew)); exact HO_4.out⟩, ⟨skR HO_6.out⟩, ⟨skB HB.out⟩⟩
        ·
         rw [if_neg c12] at H
         exact absurd H (by simp)
       ·
        rw [if_neg c11] at H
        exact absurd H (by simp)
      ·
       rw [if_neg c10] at H
       have c10b0 : decide (x7_1 < (t329.length : Int)) = false := decide_eq_false c10
       clear c10
       replace H := Option.bind_eq_some_iff.mp H
       obtain ⟨t338, A160, H⟩ := H
       replace H : (some (t338, 0)) = some (r1, r2) := H
       have A16 := asd A160
       clear A160
       simp only [Option.some.injEq, Prod.mk.injEq] at H
       obtain ⟨rfl, rfl⟩ := H
       obtain ⟨Ao17, co17, eo17⟩ := Kd.R_slice HO_6.out
       subst eo17
       go_wp2_with (first | ((with_reducible refine gate_callee (f := 56) rfl ?_); refine goesL_ (some 36) rfl rfl Try.func56 (by kernel_rfl) rfl #[.slice A0 l0.length c0, .slice Ao17 x6_1.length co17] rfl ags ?_; (with_reducible refine (larchref05_kept.calls k1 (fun k_ => ((P0_ k_ ∨ w.heap.size ≤ k_) ∧ (some k_ ≠ (.slice Ao7 t329.length co7 : Value).ownBlock ∧ some k_ ≠ (.slice Ao17 x6_1.length co17 : Value).ownBlock))) _ _ l0 _ _ x6_1 t338 _ ?side1 ?side2 ?side3 A16.out).mono ?_); (case side1 => exact HO_0.out); (case side2 => exact skC (Kd.R_reads' HO_6.out).2.2); (case side3 => exact (Kd.R_reads' HO_6.out).2.1); rintro e w18 ⟨v339, rfl, ho0, hb⟩; refine ⟨_, rfl, ?_⟩; have n0_ := asd (Kd.V_elder' (by (with_reducible repeat (first | apply Kd.V_alloc | apply Kd.V_drewN | apply Kd.V_drew)); exact HO_0.out) (Kd.N_base ho0) hb); have n1_ := asd (Kd.N_elder' (by (with_reducible repeat (first | apply Kd.N_alloc | apply Kd.N_drewN | apply Kd.N_drew)); exact HO_4.out) (Kd.N_base ho0) hb); have n2_ := asd (Kd.R_below (skR HO_6.out) hb); have n3_ := asd (Kd.N_lower (Kd.N_mono (ok' := fun k_ => (P0_ k_ ∨ w.heap.size ≤ k_) ∧ some k_ ≠ (.slice Ao7 t329.length co7 : Value).ownBlock ∧ some k_ ≠ (.slice Ao17 x6_1.length co17 : Value).ownBlock) ho0 (fun k_ hk_ => ⟨Or.elim hk_ (fun hs_ => hs_.1) (fun hn_ => (.inr (Nat.le_trans (below_size (skB HB.out)) hn_))), Or.elim hk_ (fun hs_ => hs_.2.1) (fun hn_ => (Kd.fresh' (Kd.N_lt (by (with_reducible repeat (first | apply Kd.N_alloc | apply Kd.N_drewN | apply Kd.N_drew)); exact HO_4.out)) k_ hn_)), Or.elim hk_ (fun hs_ => hs_.2.2) (fun hn_ => (Kd.fresh' (Kd.R_lt (skR HO_6.out)) k_ hn_))⟩)) (below_size (skB HB.out))); have n4_ := asd (below_step (skB HB.out) hb); clear HO_0; clear HO_4; clear HO_6; clear HB; have HO_0 := n0_; have HO_4 := n1_; have HO_6 := n2_; have HO340 := n3_; have HB := n4_; clear n0_ n1_ n2_ n3_ n4_; (try clear hb); (try clear hb2); (try clear hk); (try clear hi); (try clear ho0)))
       go_ret2
       exact ⟨_, re, by (with_reducible repeat (first | apply Kd.N_alloc | apply Kd.N_drewN | apply Kd.N_drew)); exact Kd.N_mono HO340.out (fun _ hk => hk.1), skB HB.out⟩
   ·
    rw [if_neg c5] at H
    exact absurd H (by simp)
  ·
   rw [if_neg c4] at H
   exact absurd H (by simp)
 ·
  rw [if_neg c3] at H
  have c3b0 : (t330 == 0) = false := beq_eq_false_iff_ne.mpr c3
  have c3b1 : (t330 != 0) = true := bne_iff_ne.mpr c3
  simp only [Option.some.injEq, Prod.mk.injEq] at H
  obtain ⟨rfl, rfl⟩ := H
  go_enter Try.func33, Try.ntmps33
  go_wp2_with (first | ((with_reducible refine gate_callee (f := 38) rfl ?_); refine goesL_ (some 10) rfl rfl Try.func38 (by kernel_rfl) rfl #[.slice A0 l0.length c0] rfl ags ?_; (with_reducible refine (larchref05_Calls.calls k _ _ l0 t329 t330 _ ?side1 ?side2 A2.out).mono ?_); (case side1 => exact skC (Kd.V_reads' HO0.out).2.2); (case side2 => exact (Kd.V_reads' HO0.out).2.1); rintro e w19 ⟨v331, rfl, ho0, hb⟩; refine ⟨_, rfl, ?_⟩; have n0_ := asd (Kd.V_elder' (by (with_reducible repeat (first | apply Kd.V_alloc | apply Kd.V_drewN | apply Kd.V_drew)); exact HO0.out) (Kd.S_base ho0) hb); have n1_ := asd (Kd.N_lower (Kd.N_mono (ok' := fun k_ => (P0_ k_ ∨ w.heap.size ≤ k_)) (Kd.S_N (Kd.S_bound ho0)) (fun k_ hk_ => (.inr (Nat.le_trans (below_size (skB HB.out)) hk_.2.1)))) (below_size (skB HB.out))); have n2_ := asd (below_step (skB HB.out) hb); clear HO0; clear HB; have HO0 := n0_; have HO332 := n1_; have HB := n2_; clear n0_ n1_ n2_; (try clear hb); (try clear hb2); (try clear hk); (try clear hi); (try clear ho0)))
  go_ret2
  exact ⟨_, re, by first | exact Kd.S_nil _ _ _ _ _ | exact Kd.N_nil _ _ _ _ _ | exact Kd.V_nil _ _ _ _ _ | exact Kd.Q_nil _ _ _ _ _ | exact Kd.R_nil _ _ _ _ _, skB HB.out⟩
end Go.Proofs.Ytagdkmcgepidoaa.P
/- F36 -/
namespace Go.Proofs.Ytagdkmcgepidoaa.P
open Go.RowKit Go.Proofs.YtagdkmcgepidoaaW.PrintWords Go.Proofs.YtagdkmcgepidoaaW.PrintLast Go.Proofs.YtagdkmcgepidoaaW.PrintMore
attribute [local go_sem] max2_int min2_int max_two min_two max_three min_three max_four min_four   -- for this text's walks alone
set_option linter.unusedVariables false
set_option linter.unusedSimpArgs false
end Go.Proofs.Ytagdkmcgepidoaa.P
/- F24 -/
namespace Go.Proofs.Ytagdkmcgepidoaa.P
open Go.RowKit Go.Proofs.YtagdkmcgepidoaaW.PrintWords Go.Proofs.YtagdkmcgepidoaaW.PrintLast Go.Proofs.YtagdkmcgepidoaaW.PrintMore
attribute [local go_sem] max2_int min2_int max_two min_two max_three min_three max_four min_four   -- for this text's walks alone
set_option linter.unusedVariables false
set_option linter.unusedSimpArgs false
end Go.Proofs.Ytagdkmcgepidoaa.P
/- F58 -/
namespace Go.Proofs.Ytagdkmcgepidoaa.P
open Go.RowKit Go.Proofs.YtagdkmcgepidoaaW.PrintWords Go.Proofs.YtagdkmcgepidoaaW.PrintLast Go.Proofs.YtagdkmcgepidoaaW.PrintMore
attribute [local go_sem] max2_int min2_int max_two min_two max_three min_three max_four min_four   -- for this text's walks alone
set_option linter.unusedVariables false
set_option linter.unusedSimpArgs false
end Go.Proofs.Ytagdkmcgepidoaa.P
/- F59 -/
namespace Go.Proofs.Ytagdkmcgepidoaa.P
open Go.RowKit Go.Proofs.YtagdkmcgepidoaaW.PrintWords Go.Proofs.YtagdkmcgepidoaaW.PrintLast Go.Proofs.YtagdkmcgepidoaaW.PrintMore
attribute [local go_sem] max2_int min2_int max_two min_two max_three min_three max_four min_four   -- for this text's walks alone
set_option linter.unusedVariables false
set_option linter.unusedSimpArgs false
end Go.Proofs.Ytagdkmcgepidoaa.P
/- F61 -/
namespace Go.Proofs.Ytagdkmcgepidoaa.P
open Go.RowKit Go.Proofs.YtagdkmcgepidoaaW.PrintWords Go.Proofs.YtagdkmcgepidoaaW.PrintLast Go.Proofs.YtagdkmcgepidoaaW.PrintMore
attribute [local go_sem] max2_int min2_int max_two min_two max_three min_three max_four min_four   -- for this text's walks alone
set_option linter.unusedVariables false
set_option linter.unusedSimpArgs false
end Go.Proofs.Ytagdkmcgepidoaa.P
/- F56 -/
namespace Go.Proofs.Ytagdkmcgepidoaa.P
open Go.RowKit Go.Proofs.YtagdkmcgepidoaaW.PrintWords Go.Proofs.YtagdkmcgepidoaaW.PrintLast Go.Proofs.YtagdkmcgepidoaaW.PrintMore
attribute [local go_sem] max2_int min2_int max_two min_two max_three min_three max_four min_four   -- for this text's walks alone
set_option linter.unusedVariables false
set_option linter.unusedSimpArgs false
end Go.Proofs.Ytagdkmcgepidoaa.P
