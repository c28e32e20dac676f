/- P.eventApart_holds, part 35 of 41: the contracts of the Go functions that the law calls, its own walk, and its plain law, for every input that the statement speaks of. -/
import Derived.Test.YtagdkmcgepidoaaMAp17
import Derived.Test.YtagdkmcgepidoaaMAp33
import Derived.Test.YtagdkmcgepidoaaMAp28
import Derived.Test.YtagdkmcgepidoaaMAp24
import Derived.Test.YtagdkmcgepidoaaMAp27
import Derived.Test.YtagdkmcgepidoaaMAp29
import Derived.Test.YtagdkmcgepidoaaMAp30
import Derived.Test.YtagdkmcgepidoaaMAp4
import Derived.Test.YtagdkmcgepidoaaMAp2
import Derived.Test.YtagdkmcgepidoaaMAp5
import Derived.Test.YtagdkmcgepidoaaMAp14
set_option linter.unusedVariables false
set_option linter.unusedSimpArgs false
/- E20 -/
namespace Go.Proofs.Ytagdkmcgepidoaa.P
open Go.RowKit Go.Proofs.YtagdkmcgepidoaaW.PrintWords Go.Proofs.YtagdkmcgepidoaaW.PrintLast Go.Proofs.YtagdkmcgepidoaaW.PrintMore
structure Apart (k : Nat) (l0 : List S67) (cs : List S38) (e : Int) (cut don ofl back : List S67) (rcs : List S76) (rcut rdon rof : List S67) (e2 e3 e4 e5 e6 e7 e8 : Int) : Prop where
  known : larchlaw05_known.f = some true
  copy : larchref05_CopyEvents.f k l0 = some l0
  copy6 : larchref05_CopyEvents.f k (l0 ++ List.replicate 6 z67) = some (l0 ++ List.replicate 6 z67)
  calls : event_Calls.f l0 = some (cs, e)
  fcut : event_Cut.f l0 ((l0.length : Int) / 4) = some (cut, e2)
  done : event_Done.f l0 = some (don, e3)
  of_ : event_Of.f l0 0 = some (ofl, e4)
  fback : event_Events.f cs = some (back, e5)
  same6 : larchref05_SameEvents.f k (l0 ++ List.replicate 6 z67) (l0 ++ List.replicate 6 z67) = some true
  rcalls : larchref05_Calls.f k l0 = some (rcs, e)
  frcut : larchref05_Cut.f k l0 ((l0.length : Int) / 4) = some (rcut, e6)
  rdone : larchref05_Done.f k l0 = some (rdon, e7)
  frof : larchref05_Of.f k l0 0 = some (rof, e8)
  are : larchlaw05_are.f k cs rcs = some true
  scut : larchref05_SameEvents.f k cut rcut = some true
  sdone : larchref05_SameEvents.f k don rdon = some true
  sof : larchref05_SameEvents.f k ofl rof = some true
  sback : (e == 0) = true → larchref05_SameEvents.f k back l0 = some true
  again : ∀ ys, shp67 ys = shp67 l0 → ∃ k2 c2 f2 r2, larchref05_CopyEvents.f k2 ys = some ys ∧ event_Calls.f ys = some (c2, f2) ∧ larchref05_Calls.f k2 ys = some (r2, f2) ∧ larchlaw05_are.f k2 c2 r2 = some true
set_option maxHeartbeats 8000000 in
set_option maxRecDepth 100000 in
theorem larchlaw05_EventApart_calls (k : Nat) (A0 : Option Addr) (c0 : Nat) (l0 : List S67) (cs : List S38) (e : Int) (cut don ofl back : List S67) (rcs : List S76) (rcut rdon rof : List S67) (e2 e3 e4 e5 e6 e7 e8 : Int) (w : World) (hr0 : Kd.C k67 w A0 l0.length l0) (hc0 : l0.length ≤ c0) (hl : l0.length ≤ 1048576) (h : Apart k l0 cs e cut don ofl back rcs rcut rdon rof e2 e3 e4 e5 e6 e7 e8) :
    Calls Try.prog 11 #[.slice A0 l0.length c0] w fun e w' => e = .returned (.bool true) ∧ Below w.heap.size w w' := by
  have hu67 := Try.underlying67
  have hu38 := Try.underlying38
  have hu36 := Try.underlying36
  have hu33 := Try.underlying33
  have HF := Aside0.mk h
  clear h
  have hN6 : ((l0.length : Int) + 6).toNat = l0.length + 6 := by omega
  have hL6 : (l0 ++ List.replicate 6 z67).length = l0.length + 6 := by simp
  have hw6 : IntKind.i64.wrap ((l0.length : Int) + 6) = (l0.length : Int) + 6 := IntWalk.i64_in _ (by omega)
  have b1 : (0 : Int) ≤ (l0.length : Int) := by omega
  obtain ⟨bz, hz⟩ : ∃ bz, (e == 0) = bz := ⟨_, rfl⟩
  cases bz
  all_goals
    go_enter Try.func11, Try.ntmps11
    go_wp2_with (first
      | (go_at_call 12; refine (larchlaw05_known.calls true _ HF.out.known).mono ?_; rintro e_ w1 ⟨rfl, hb⟩; have HB1 := Aside0.mk hb; clear hb)
      | ((with_reducible refine gate_dst (N := 38) rfl ?_); (refine Kd.R_make (Kd.bare k67) (w0 := w1) w1.heap.size 67 rfl (N := 38) rfl 22 _ _ rfl ((l0.length : Int) + 6) ?m1 ?m2 Try.underlying22 (.agg #[(.int .i64 0), (.bool false), (.int .i64 0), (.int .i64 0), (.int .i64 0), (.int .i64 0), (.bool false), (.int .i64 0), (.int .i64 0), (.slice none 0 0)]) 96 info67 rfl (by decide) (by omega) z67 (ok := fun _ => True) (okp := fun _ => False) (k67_mkM _ _ _ z67 (Kd.R_nil _ _ _ _ _)) (fun _ hk => hk.elim) trivial (by omega) (by omega) (Below.refl _ _) (Nat.le_refl _) ?_); (case m1 => first | rfl | (go_simp; done)); (case m2 => first | rfl | (go_simp; done)); intro v2 w2 ho2 hb2 hg2 hat2; obtain ⟨g, hgo, hgl⟩ := hat2; obtain ⟨i2, hi2⟩ := Kd.R_own ho2; obtain ⟨cg, rfl⟩ := own_form0 hi2 hgo; rw [hN6, List.length_replicate] at ho2; rw [hN6, List.length_replicate]; have HM2 := Aside0.mk ho2; have HE2 := Aside0.mk hb2; have HG2 : Aside0 (w1.heap.size ≤ g ∧ g < w2.heap.size) := ⟨hgl, Kd.R_lt ho2 g (by simp [Value.ownBlock])⟩; have hcg : (l0.length : Int) ≤ (cg : Int) := (by have := (Kd.R_reads' ho2).2.1; omega); clear ho2 hb2 hg2 hi2 hgo hgl)
      | (go_at_call 43; (with_reducible refine (larchref05_CopyEvents.calls k A0 c0 l0 l0 w2 (Kd.C_below hr0 (below_step HB1.out HE2.out)) hc0 HF.out.copy).mono ?_); rintro e_ w3 ⟨v3, rfl, ho3, hb3⟩; obtain ⟨A3, c3, rfl⟩ := Kd.S_slice ho3; obtain ⟨w4, hrun, hS4, hg4⟩ := copy_full (Kd.R_below HM2.out hb3) ho3 HG2.out.2 (HE2.out).size (by omega); have hcopy := hrun 3; have HO4 : Aside0 (Kd.S k67 67 w4 w1.heap.size (fun _ => True) (.slice (some ⟨g, 0, none⟩) (l0.length + 6) cg) (l0 ++ List.replicate 6 z67)) := ⟨by rw [List.drop_replicate, show l0.length + 6 - l0.length = 6 by omega] at hS4; exact hS4⟩; have HB4 : Aside0 (Below w.heap.size w w4) := ⟨(below_step (below_step HB1.out HE2.out) hb3).grown hg4 (by have := (below_step (below_step HB1.out HE2.out) hb3).size; omega) (fun k hk => by injection hk with hk; have := HB1.out.size; have := HG2.out.1; omega)⟩; clear hrun hS4 hb3 ho3; have HI4 : Aside0 (Kd.S k67 67 w4 w1.heap.size (fun _ => True) (.slice (some ⟨g, 0, none⟩) l0.length cg) l0) := ⟨by have := S_take HO4.out (m := l0.length) (by simp); rw [List.take_left'] at this; exact this; rfl⟩; have HIC := Aside0.mk (Kd.S_reads' HI4.out).2.2; have HIc := Aside0.mk (Kd.S_reads' HI4.out).2.1; have HFC := Aside0.mk (Kd.S_reads' HO4.out).2.2; have HFc := Aside0.mk (Kd.S_reads' HO4.out).2.1; have hF6 := larchref05_CopyEvents.calls k (some ⟨g, 0, none⟩) cg (l0 ++ List.replicate 6 z67) (l0 ++ List.replicate 6 z67) w4 HFC.out (by rw [hL6]; exact HFc.out) HF.out.copy6; rw [hL6] at hF6; have HF6 := Aside0.mk hF6; clear hF6)
      | (go_at_call 43; (with_reducible refine HF6.out.mono ?_); rintro e_ w5 ⟨v5, rfl, ho5, hb5⟩; obtain ⟨A5, c5, rfl⟩ := Kd.S_slice ho5; rw [hL6]; have HO5 := Aside0.mk ho5; have s5 := Aside0.mk hb5; clear hb5 ho5)
      | (go_at_call 13; (with_reducible refine (event_Calls.calls (some ⟨g, 0, none⟩) cg l0 cs e w5 (Kd.C_below HIC.out s5.out) HIc.out HF.out.calls).mono ?_); rintro e_ w6 ⟨v6, rfl, ho6, hb6⟩; obtain ⟨A6, c6, rfl⟩ := Kd.S_slice ho6; have HO6 := Aside0.mk ho6; have s6 := Aside0.mk hb6; clear hb6 ho6)
      | (go_at_call 13; (with_reducible refine (event_Calls.calls (some ⟨g, 0, none⟩) cg l0 cs e w6 (Kd.C_below HIC.out (below_step s5.out s6.out)) HIc.out HF.out.calls).mono ?_); rintro e_ w7 ⟨v7, rfl, ho7, hb7⟩; obtain ⟨A7, c7, rfl⟩ := Kd.S_slice ho7; have HO7 := Aside0.mk ho7; have s7 := Aside0.mk hb7; clear hb7 ho7)
      | (go_at_call 32; (with_reducible refine (event_Cut.calls (some ⟨g, 0, none⟩) cg l0 _ cut e2 w7 (Kd.C_below HIC.out (below_step (below_step s5.out s6.out) s7.out)) HIc.out HF.out.fcut).mono ?_); rintro e_ w8 ⟨v8, rfl, ho8, hb8⟩; obtain ⟨A8, c8, rfl⟩ := Kd.S_slice ho8; have HO8 := Aside0.mk ho8; have s8 := Aside0.mk hb8; clear hb8 ho8)
      | (go_at_call 34; (with_reducible refine (event_Done.calls (some ⟨g, 0, none⟩) cg l0 don e3 w8 (Kd.C_below HIC.out (below_step (below_step (below_step s5.out s6.out) s7.out) s8.out)) HIc.out HF.out.done).mono ?_); rintro e_ w9 ⟨v9, rfl, ho9, hb9⟩; obtain ⟨A9, c9, rfl⟩ := Kd.S_slice ho9; have HO9 := Aside0.mk ho9; have s9 := Aside0.mk hb9; clear hb9 ho9)
      | (go_at_call 28; (with_reducible refine (event_Of.calls (some ⟨g, 0, none⟩) cg l0 0 ofl e4 w9 (Kd.C_below HIC.out (below_step (below_step (below_step (below_step s5.out s6.out) s7.out) s8.out) s9.out)) HIc.out HF.out.of_).mono ?_); rintro e_ w10 ⟨v10, rfl, ho10, hb10⟩; obtain ⟨A10, c10, rfl⟩ := Kd.S_slice ho10; have HO10 := Aside0.mk ho10; have s10 := Aside0.mk hb10; clear hb10 ho10)
      | (go_at_call 28; (with_reducible refine (event_Of.calls (some ⟨g, 0, none⟩) cg l0 0 ofl e4 w10 (Kd.C_below HIC.out (below_step (below_step (below_step (below_step (below_step s5.out s6.out) s7.out) s8.out) s9.out) s10.out)) HIc.out HF.out.of_).mono ?_); rintro e_ w11 ⟨v11, rfl, ho11, hb11⟩; obtain ⟨A11, c11, rfl⟩ := Kd.S_slice ho11; have HO11 := Aside0.mk ho11; have s11 := Aside0.mk hb11; clear hb11 ho11)
      | (go_at_call 41; (with_reducible refine (event_Events.calls A6 c6 cs back e5 w11 (Kd.C_below (Kd.S_reads' HO6.out).2.2 (below_step (below_step (below_step (below_step s7.out s8.out) s9.out) s10.out) s11.out)) (Kd.S_reads' HO6.out).2.1 HF.out.fback).mono ?_); rintro e_ w12 ⟨v12, rfl, ho12, hb12⟩; obtain ⟨A12, c12, rfl⟩ := Kd.S_slice ho12; have HO12 := Aside0.mk ho12; have s12 := Aside0.mk hb12; clear hb12 ho12)
      | (go_at_call 29; have hS6 := larchref05_SameEvents.calls k (some ⟨g, 0, none⟩) cg (l0 ++ List.replicate 6 z67) A5 c5 (l0 ++ List.replicate 6 z67) true w12 (Kd.C_below HFC.out (below_step (below_step (below_step (below_step (below_step (below_step (below_step s5.out s6.out) s7.out) s8.out) s9.out) s10.out) s11.out) s12.out)) (by rw [hL6]; exact HFc.out) (Kd.C_below (Kd.S_reads' HO5.out).2.2 (below_step (below_step (below_step (below_step (below_step (below_step s6.out s7.out) s8.out) s9.out) s10.out) s11.out) s12.out)) (Kd.S_reads' HO5.out).2.1 HF.out.same6; rw [hL6] at hS6; (with_reducible refine hS6.mono ?_); rintro e_ w13 ⟨rfl, hb13⟩; have s13 := Aside0.mk hb13; clear hb13 hS6)
      | (go_at_call 38; (with_reducible refine (larchref05_Calls.calls k A0 c0 l0 rcs e w13 (Kd.C_below hr0 (below_step HB4.out (below_step (below_step (below_step (below_step (below_step (below_step (below_step (below_step s5.out s6.out) s7.out) s8.out) s9.out) s10.out) s11.out) s12.out) s13.out))) hc0 HF.out.rcalls).mono ?_); rintro e_ w14 ⟨v14, rfl, ho14, hb14⟩; obtain ⟨A14, c14, rfl⟩ := Kd.S_slice ho14; have HO14 := Aside0.mk ho14; have s14 := Aside0.mk hb14; clear hb14 ho14)
      | (go_at_call 31; (with_reducible refine (larchref05_Cut.calls k (fun k_ => k_ < w.heap.size) A0 c0 l0 _ rcut e6 w14 (Kd.V_mk hc0 (Kd.F_below (Kd.C_F k67_heap hr0) (below_step HB4.out (below_step (below_step (below_step (below_step (below_step (below_step (below_step (below_step (below_step s5.out s6.out) s7.out) s8.out) s9.out) s10.out) s11.out) s12.out) s13.out) s14.out)))) HF.out.frcut).mono ?_); rintro e_ w15 ⟨v15, rfl, ho15, hb15⟩; obtain ⟨A15, c15, rfl⟩ := Kd.N_slice ho15; have HO15 := Aside0.mk ho15; have s15 := Aside0.mk hb15; clear hb15 ho15)
      | (go_at_call 33; (with_reducible refine (larchref05_Done.calls k (fun k_ => k_ < w.heap.size) A0 c0 l0 rdon e7 w15 (Kd.V_mk hc0 (Kd.F_below (Kd.C_F k67_heap hr0) (below_step HB4.out (below_step (below_step (below_step (below_step (below_step (below_step (below_step (below_step (below_step (below_step s5.out s6.out) s7.out) s8.out) s9.out) s10.out) s11.out) s12.out) s13.out) s14.out) s15.out)))) HF.out.rdone).mono ?_); rintro e_ w16 ⟨v16, rfl, ho16, hb16⟩; obtain ⟨A16, c16, rfl⟩ := Kd.N_slice ho16; have HO16 := Aside0.mk ho16; have s16 := Aside0.mk hb16; clear hb16 ho16)
      | (go_at_call 27; (with_reducible refine (larchref05_Of.calls k (fun k_ => k_ < w.heap.size) A0 c0 l0 0 rof e8 w16 (Kd.V_mk hc0 (Kd.F_below (Kd.C_F k67_heap hr0) (below_step HB4.out (below_step (below_step (below_step (below_step (below_step (below_step (below_step (below_step (below_step (below_step (below_step s5.out s6.out) s7.out) s8.out) s9.out) s10.out) s11.out) s12.out) s13.out) s14.out) s15.out) s16.out)))) HF.out.frof).mono ?_); rintro e_ w17 ⟨v17, rfl, ho17, hb17⟩; obtain ⟨A17, c17, rfl⟩ := Kd.N_slice ho17; have HO17 := Aside0.mk ho17; have s17 := Aside0.mk hb17; clear hb17 ho17)
      | (go_at_call 39; (with_reducible refine (larchlaw05_are.calls k A7 c7 cs A14 c14 rcs true w17 (Kd.C_below (Kd.S_reads' HO7.out).2.2 (below_step (below_step (below_step (below_step (below_step (below_step (below_step (below_step (below_step s8.out s9.out) s10.out) s11.out) s12.out) s13.out) s14.out) s15.out) s16.out) s17.out)) (Kd.S_reads' HO7.out).2.1 (Kd.C_below (Kd.S_reads' HO14.out).2.2 (below_step (below_step s15.out s16.out) s17.out)) (Kd.S_reads' HO14.out).2.1 HF.out.are).mono ?_); rintro e_ w18 ⟨rfl, hb18⟩; have s18 := Aside0.mk hb18; clear hb18)
      | (go_at_call 29; (with_reducible refine (larchref05_SameEvents.calls k A8 c8 cut A15 c15 rcut true w18 (Kd.C_below (Kd.S_reads' HO8.out).2.2 (below_step (below_step (below_step (below_step (below_step (below_step (below_step (below_step (below_step s9.out s10.out) s11.out) s12.out) s13.out) s14.out) s15.out) s16.out) s17.out) s18.out)) (Kd.S_reads' HO8.out).2.1 (Kd.C_below (Kd.N_reads' HO15.out).2.2 (below_step (below_step s16.out s17.out) s18.out)) (Kd.N_reads' HO15.out).2.1 HF.out.scut).mono ?_); rintro e_ w19 ⟨rfl, hb19⟩; have s19 := Aside0.mk hb19; clear hb19)
      | (go_at_call 29; (with_reducible refine (larchref05_SameEvents.calls k A9 c9 don A16 c16 rdon true w19 (Kd.C_below (Kd.S_reads' HO9.out).2.2 (below_step (below_step (below_step (below_step (below_step (below_step (below_step (below_step (below_step s10.out s11.out) s12.out) s13.out) s14.out) s15.out) s16.out) s17.out) s18.out) s19.out)) (Kd.S_reads' HO9.out).2.1 (Kd.C_below (Kd.N_reads' HO16.out).2.2 (below_step (below_step s17.out s18.out) s19.out)) (Kd.N_reads' HO16.out).2.1 HF.out.sdone).mono ?_); rintro e_ w20 ⟨rfl, hb20⟩; have s20 := Aside0.mk hb20; clear hb20)
      | (go_at_call 29; (with_reducible refine (larchref05_SameEvents.calls k A10 c10 ofl A17 c17 rof true w20 (Kd.C_below (Kd.S_reads' HO10.out).2.2 (below_step (below_step (below_step (below_step (below_step (below_step (below_step (below_step (below_step s11.out s12.out) s13.out) s14.out) s15.out) s16.out) s17.out) s18.out) s19.out) s20.out)) (Kd.S_reads' HO10.out).2.1 (Kd.C_below (Kd.N_reads' HO17.out).2.2 (below_step (below_step s18.out s19.out) s20.out)) (Kd.N_reads' HO17.out).2.1 HF.out.sof).mono ?_); rintro e_ wz ⟨rfl, hb21⟩; have s21 := Aside0.mk hb21; have TL := Aside0.mk (Below.refl wz.heap.size wz); clear hb21)
      | (go_at_call 29; (with_reducible refine (larchref05_SameEvents.calls k A12 c12 back A0 c0 l0 true wz (Kd.C_below (Kd.S_reads' HO12.out).2.2 (below_step (below_step (below_step (below_step (below_step (below_step (below_step (below_step s13.out s14.out) s15.out) s16.out) s17.out) s18.out) s19.out) s20.out) s21.out)) (Kd.S_reads' HO12.out).2.1 (Kd.C_below hr0 (below_step HB4.out (below_step (below_step (below_step (below_step (below_step (below_step (below_step (below_step (below_step (below_step (below_step (below_step (below_step (below_step (below_step (below_step s5.out s6.out) s7.out) s8.out) s9.out) s10.out) s11.out) s12.out) s13.out) s14.out) s15.out) s16.out) s17.out) s18.out) s19.out) s20.out) s21.out))) hc0 (HF.out.sback hz)).mono ?_); rintro e_ wz ⟨rfl, hb22⟩; replace TL := Aside0.mk hb22; clear hb22))
    have HK : Aside0 (ApK w wz (.slice A7 cs.length c7) (.slice A9 don.length c9) (.slice A11 ofl.length c11) (.slice A12 back.length c12) (.slice A14 rcs.length c14) (.slice A16 rdon.length c16) (.slice A17 rof.length c17) cs don ofl back rcs rdon rof w6.heap.size w7.heap.size w8.heap.size w9.heap.size w10.heap.size w11.heap.size w12.heap.size w13.heap.size w14.heap.size w15.heap.size w16.heap.size w17.heap.size) := ⟨⟨below_step HB4.out (below_step (below_step (below_step (below_step (below_step (below_step (below_step (below_step (below_step (below_step (below_step (below_step (below_step (below_step (below_step (below_step (below_step s5.out s6.out) s7.out) s8.out) s9.out) s10.out) s11.out) s12.out) s13.out) s14.out) s15.out) s16.out) s17.out) s18.out) s19.out) s20.out) s21.out) TL.out), S_win HO7.out (below_step (below_step (below_step (below_step (below_step (below_step (below_step (below_step (below_step (below_step (below_step (below_step (below_step (below_step s8.out s9.out) s10.out) s11.out) s12.out) s13.out) s14.out) s15.out) s16.out) s17.out) s18.out) s19.out) s20.out) s21.out) TL.out), S_win HO9.out (below_step (below_step (below_step (below_step (below_step (below_step (below_step (below_step (below_step (below_step (below_step (below_step s10.out s11.out) s12.out) s13.out) s14.out) s15.out) s16.out) s17.out) s18.out) s19.out) s20.out) s21.out) TL.out), S_win HO11.out (below_step (below_step (below_step (below_step (below_step (below_step (below_step (below_step (below_step (below_step s12.out s13.out) s14.out) s15.out) s16.out) s17.out) s18.out) s19.out) s20.out) s21.out) TL.out), S_win HO12.out (below_step (below_step (below_step (below_step (below_step (below_step (below_step (below_step (below_step s13.out s14.out) s15.out) s16.out) s17.out) s18.out) s19.out) s20.out) s21.out) TL.out), S_win HO14.out (below_step (below_step (below_step (below_step (below_step (below_step (below_step s15.out s16.out) s17.out) s18.out) s19.out) s20.out) s21.out) TL.out), N_win HO16.out (below_step (below_step (below_step (below_step (below_step s17.out s18.out) s19.out) s20.out) s21.out) TL.out), N_win HO17.out (below_step (below_step (below_step (below_step s18.out s19.out) s20.out) s21.out) TL.out)⟩⟩
    have HA := Aside0.mk (S_win HO6.out (below_step (below_step (below_step (below_step (below_step (below_step (below_step (below_step (below_step (below_step (below_step (below_step (below_step (below_step (below_step s7.out s8.out) s9.out) s10.out) s11.out) s12.out) s13.out) s14.out) s15.out) s16.out) s17.out) s18.out) s19.out) s20.out) s21.out) TL.out))
    have HI := Aside0.mk (S_win HI4.out (below_step (below_step (below_step (below_step (below_step (below_step (below_step (below_step (below_step (below_step (below_step (below_step (below_step (below_step (below_step (below_step (below_step s5.out s6.out) s7.out) s8.out) s9.out) s10.out) s11.out) s12.out) s13.out) s14.out) s15.out) s16.out) s17.out) s18.out) s19.out) s20.out) s21.out) TL.out))
    have H8 := Aside0.mk (S_win HO8.out (below_step (below_step (below_step (below_step (below_step (below_step (below_step (below_step (below_step (below_step (below_step (below_step (below_step s9.out s10.out) s11.out) s12.out) s13.out) s14.out) s15.out) s16.out) s17.out) s18.out) s19.out) s20.out) s21.out) TL.out))
    have H10 := Aside0.mk (S_win HO10.out (below_step (below_step (below_step (below_step (below_step (below_step (below_step (below_step (below_step (below_step (below_step s11.out s12.out) s13.out) s14.out) s15.out) s16.out) s17.out) s18.out) s19.out) s20.out) s21.out) TL.out))
    have HL : Aside0 (w.heap.size ≤ w1.heap.size ∧ w1.heap.size ≤ w4.heap.size ∧ w4.heap.size ≤ w5.heap.size ∧ w5.heap.size ≤ w6.heap.size ∧ w6.heap.size ≤ w7.heap.size ∧ w7.heap.size ≤ w8.heap.size ∧ w8.heap.size ≤ w9.heap.size ∧ w9.heap.size ≤ w10.heap.size ∧ w10.heap.size ≤ w11.heap.size ∧ w11.heap.size ≤ w12.heap.size ∧ w12.heap.size ≤ w13.heap.size ∧ w13.heap.size ≤ w14.heap.size ∧ w14.heap.size ≤ w15.heap.size ∧ w15.heap.size ≤ w16.heap.size ∧ w16.heap.size ≤ w17.heap.size) := ⟨⟨HB1.out.size, by have := HG2.out; have h4 := Kd.S_lt HO4.out g (by simp [Value.ownBlock]); omega, s5.out.size, s6.out.size, s7.out.size, s8.out.size, s9.out.size, s10.out.size, s11.out.size, s12.out.size, s13.out.size, s14.out.size, s15.out.size, s16.out.size, s17.out.size⟩⟩
    have hcs : cs.length ≤ 9223372036854775807 := (Kd.S_reads' HA.out).2.2.2.1
    clear HB4 HO4 HI4 HIC HIc HFC HFc HF6 HO5 s5 s6 s7 s8 s9 s10 s11 s12 s13 s14 s15 s16 s17 s18 s19 s20 s21 HO6 HO7 HO8 HO9 HO10 HO11 HO12 HO14 HO15 HO16 HO17 TL HB1 HM2 HE2 HG2 hcopy hg4 hcg
    generalize w1.heap.size = n1 at HK HA HI H8 H10 HL
    generalize w4.heap.size = n4 at HK HA HI H8 H10 HL
    generalize w5.heap.size = n5 at HK HA HI H8 H10 HL
    generalize w6.heap.size = n6 at HK HA HI H8 H10 HL
    generalize w7.heap.size = n7 at HK HA HI H8 H10 HL
    generalize w8.heap.size = n8 at HK HA HI H8 H10 HL
    generalize w9.heap.size = n9 at HK HA HI H8 H10 HL
    generalize w10.heap.size = n10 at HK HA HI H8 H10 HL
    generalize w11.heap.size = n11 at HK HA HI H8 H10 HL
    generalize w12.heap.size = n12 at HK HA HI H8 H10 HL
    generalize w13.heap.size = n13 at HK HA HI H8 H10 HL
    generalize w14.heap.size = n14 at HK HA HI H8 H10 HL
    generalize w15.heap.size = n15 at HK HA HI H8 H10 HL
    generalize w16.heap.size = n16 at HK HA HI H8 H10 HL
    generalize w17.heap.size = n17 at HK HA HI H8 H10 HL
    clear w1 w2 w3 w4 w5 w6 w7 w8 w9 w10 w11 w12 w13 w14 w15 w16 w17 w18 w19 w20
    go_wp2
    go_loopw [29] (fun v29 W => ∃ (j : Nat) (ys : List S38), v29 = .int .i64 (j : Int) ∧ j ≤ cs.length ∧ Aside0 (shp38 ys = shp38 cs) ∧ Aside0 (Kd.S k38 38 W n5 (Win n5 n6) (.slice A6 cs.length c6) ys) ∧ Aside0 (Chg wz W (Win n5 n6))) (fun v29 _ => cs.length - (intOf v29).toNat)
    case atStart => exact ⟨0, cs, rfl, Nat.zero_le _, ⟨rfl⟩, HA, ⟨Chg.refl _ _⟩⟩
    case round =>
      clear HA
      obtain ⟨j, ys, rfl, hj, HX, HS, HC⟩ := hrel
      by_cases hlt : j < cs.length
      · obtain ⟨g6, cg6, ea, -⟩ := Kd.S_form HS.out (by rw [shp38_len HX.out]; omega)
        injection ea with ea _ _
        subst ea
        obtain ⟨A8, c8, y0, f0, y2, f2, -, hpl, -⟩ := cl_row HS.out j hlt
        rw [shp38_at HX.out] at hpl
        obtain ⟨np, hnp⟩ : ∃ np, np = (J38 cs (j : Int)).f2.f3.length := ⟨_, rfl⟩
        rw [← hnp] at hpl
        have HNP := Aside0.mk hnp
        clear hnp
        obtain ⟨z1, hz1, hs1⟩ := (cl_flat HS.out j hlt 99).1
        obtain ⟨z2, hz2, hs2⟩ := (cl_flat hs1 j hlt 99).2
        have HZ := Aside0.mk (hz2.trans (hz1.trans HX.out))
        have HS2 := Aside0.mk hs2
        have hog : Win n5 n6 g6 := (Kd.S_R HS.out).1 g6 (by simp [Value.ownBlock])
        have HOG := Aside0.mk hog
        have d1 : (0 : Int) ≤ (j : Int) := by omega
        have d2 : (j : Int) < (cs.length : Int) := by omega
        clear hz1 hs1 hz2 hs2 hog
        go_wp2
        go_loopw [30] (fun v30 W => ∃ (m : Nat) (zs : List S38), v30 = .int .i64 (m : Int) ∧ m ≤ np ∧ Aside0 (shp38 zs = shp38 cs) ∧ Aside0 (Kd.S k38 38 W n5 (Win n5 n6) (.slice (some ⟨g6, 0, none⟩) cs.length c6) zs) ∧ Aside0 (Chg wz W (Win n5 n6))) (fun v30 _ => np - (intOf v30).toNat)
        case atStart => exact ⟨0, z2, rfl, Nat.zero_le _, HZ, HS2, ⟨(HC.out.trans (Chg.set _ HOG.out _)).trans (Chg.set _ HOG.out _)⟩⟩
        case round =>
          clear HZ HS2 HS HC HX y0 f0 y2 f2
          obtain ⟨m, zs, rfl, hm, HX, HS, HC⟩ := hrel
          obtain ⟨A8, c8, -, -, -, -, y8, -, hp⟩ := cl_row HS.out j hlt
          rw [shp38_at HX.out, ← HNP.out] at y8 hp
          by_cases hlm : m < np
          · obtain ⟨g8, rfl, ho8, ⟨a, ca⟩, fa, hput⟩ := hp m hlm
            obtain ⟨qs, hq1, hq2⟩ := hput 77
            have HQ1 := Aside0.mk hq1
            have HQ2 := Aside0.mk hq2
            have q1 : (0 : Int) ≤ (m : Int) := by omega
            have q2 : (m : Int) < (np : Int) := by omega
            have HO8 := Aside0.mk ho8
            clear hput hp hq1 hq2 ho8
            go_wp2
            go_roundw
            case rel => exact ⟨m + 1, qs, by go_num, by omega, ⟨HQ1.out.trans HX.out⟩, HQ2, ⟨HC.out.trans (Chg.set _ HO8.out _)⟩⟩
            case measure => simp [intOf]; omega
          · obtain rfl : m = np := by omega
            clear hp
            go_wp2
            go_roundw
            case rel => exact ⟨j + 1, zs, by go_num, by omega, HX, HS, HC⟩
            case measure => simp [intOf]; omega
      · obtain rfl : j = cs.length := by omega
        obtain ⟨L1, L2, L4, L5, L6, L7, L8, L9, L10, L11, L12, L13, L14, L15, L16⟩ := HL.out
        have HK1 := Aside0.mk (HK.out.chg HC.out (by omega) (by omega) (by omega))
        have HI1 := Aside0.mk (HC.out.S HI.out (fun k h1 _ h2 => by unfold Win at h1 h2; omega))
        have H81 := Aside0.mk (HC.out.S H8.out (fun k h1 _ h2 => by unfold Win at h1 h2; omega))
        have H101 := Aside0.mk (HC.out.S H10.out (fun k h1 _ h2 => by unfold Win at h1 h2; omega))
        clear HK HI H8 H10 HC HS HX L1 L2 L4 L5 L6 L7 L8 L9 L10 L11 L12 L13 L14 L15 L16 hlt hj
        go_wp2_with (first
          | (go_at_call 44; (with_reducible refine (larchlaw05_spoil_calls (.slice (some ⟨g, 0, none⟩) l0.length cg) l0 n1 (Win n1 n4) wr HI1.out).mono ?_); rintro e_ ws1 ⟨rfl, ys1, hy1, hS1, hC1⟩; obtain ⟨L1, L2, L4, L5, L6, L7, L8, L9, L10, L11, L12, L13, L14, L15, L16⟩ := HL.out; have HK2 := Aside0.mk (HK1.out.chg hC1 (by omega) (by omega) (by omega)); have HI2 := Aside0.mk hS1; have HY1 := Aside0.mk hy1; have H82 := Aside0.mk (hC1.S H81.out (fun k h1 _ h2 => by unfold Win at h1 h2; omega)); have H102 := Aside0.mk (hC1.S H101.out (fun k h1 _ h2 => by unfold Win at h1 h2; omega)); clear hS1 hC1 hy1 L1 L2 L4 L5 L6 L7 L8 L9 L10 L11 L12 L13 L14 L15 L16)
          | (go_at_call 44; (with_reducible refine (larchlaw05_spoil_calls (.slice A8 cut.length c8) cut n7 (Win n7 n8) ws1 H82.out).mono ?_); rintro e_ ws2 ⟨rfl, ys2, -, -, hC1⟩; obtain ⟨L1, L2, L4, L5, L6, L7, L8, L9, L10, L11, L12, L13, L14, L15, L16⟩ := HL.out; have HK3 := Aside0.mk (HK2.out.chg hC1 (by omega) (by omega) (by omega)); have HI3 := Aside0.mk (hC1.S HI2.out (fun k h1 _ h2 => by unfold Win at h1 h2; omega)); have H103 := Aside0.mk (hC1.S H102.out (fun k h1 _ h2 => by unfold Win at h1 h2; omega)); clear hC1 L1 L2 L4 L5 L6 L7 L8 L9 L10 L11 L12 L13 L14 L15 L16)
          | (go_at_call 44; (with_reducible refine (larchlaw05_spoil_calls (.slice A10 ofl.length c10) ofl n9 (Win n9 n10) ws2 H103.out).mono ?_); rintro e_ ws3 ⟨rfl, ys3, -, -, hC1⟩; obtain ⟨L1, L2, L4, L5, L6, L7, L8, L9, L10, L11, L12, L13, L14, L15, L16⟩ := HL.out; have HK4 := Aside0.mk (HK3.out.chg hC1 (by omega) (by omega) (by omega)); have HI4 := Aside0.mk (hC1.S HI3.out (fun k h1 _ h2 => by unfold Win at h1 h2; omega)); clear hC1 L1 L2 L4 L5 L6 L7 L8 L9 L10 L11 L12 L13 L14 L15 L16)
          | (go_at_call 39; (with_reducible refine (larchlaw05_are.calls k A7 c7 cs A14 c14 rcs true ws3 (Kd.S_reads' HK4.out.b).2.2 (Kd.S_reads' HK4.out.b).2.1 (Kd.S_reads' HK4.out.r).2.2 (Kd.S_reads' HK4.out.r).2.1 HF.out.are).mono ?_); rintro e_ x1 ⟨rfl, hb⟩; have HK5 := Aside0.mk (HK4.out.below hb); have HI5 := Aside0.mk (Kd.S_below HI4.out hb); clear hb)
          | (go_at_call 29; (with_reducible refine (larchref05_SameEvents.calls k A9 c9 don A16 c16 rdon true x1 (Kd.S_reads' HK5.out.d).2.2 (Kd.S_reads' HK5.out.d).2.1 (Kd.N_reads' HK5.out.u).2.2 (Kd.N_reads' HK5.out.u).2.1 HF.out.sdone).mono ?_); rintro e_ x2 ⟨rfl, hb⟩; have HK6 := Aside0.mk (HK5.out.below hb); have HI6 := Aside0.mk (Kd.S_below HI5.out hb); clear hb)
          | (go_at_call 29; (with_reducible refine (larchref05_SameEvents.calls k A11 c11 ofl A17 c17 rof true x2 (Kd.S_reads' HK6.out.p).2.2 (Kd.S_reads' HK6.out.p).2.1 (Kd.N_reads' HK6.out.t).2.2 (Kd.N_reads' HK6.out.t).2.1 HF.out.sof).mono ?_); rintro e_ x3 ⟨rfl, hb⟩; have HK7 := Aside0.mk (HK6.out.below hb); have HI7 := Aside0.mk (Kd.S_below HI6.out hb); clear hb)
          | (go_at_call 29; (with_reducible refine (larchref05_SameEvents.calls k A12 c12 back A0 c0 l0 true x3 (Kd.S_reads' HK7.out.k).2.2 (Kd.S_reads' HK7.out.k).2.1 (Kd.C_below hr0 HK7.out.HB) hc0 (HF.out.sback hz)).mono ?_); rintro e_ x3 ⟨rfl, hb⟩; replace HK7 := Aside0.mk (HK7.out.below hb); replace HI7 := Aside0.mk (Kd.S_below HI7.out hb); clear hb))
        obtain ⟨k2, c2, f2, r2, g1, g2, g3, g4⟩ := HF.out.again ys1 HY1.out
        have hyl := shp67_len HY1.out
        have hC1 := larchref05_CopyEvents.calls k2 (some ⟨g, 0, none⟩) cg ys1 ys1 x3 (by have := (Kd.S_reads' HI7.out).2.2; exact this) (by rw [hyl]; exact (Kd.S_reads' HI7.out).2.1) g1
        rw [hyl] at hC1
        have HC1 := Aside0.mk hC1
        have G2 := Aside0.mk g2
        have G3 := Aside0.mk g3
        have G4 := Aside0.mk g4
        have HYL := Aside0.mk hyl
        clear hC1 g1 g2 g3 g4 hyl
        go_wp2_with (first
          | (go_at_call 43; (with_reducible refine HC1.out.mono ?_); rintro e_ x4 ⟨v4, rfl, ho4, hb4⟩; obtain ⟨A4, c4, rfl⟩ := Kd.S_slice ho4; have HX4 := Aside0.mk ho4; have hb4' := Aside0.mk hb4; clear ho4 hb4)
          | (go_at_call 38; (with_reducible refine (larchref05_Calls.calls k2 A4 c4 ys1 r2 f2 x4 (Kd.S_reads' HX4.out).2.2 (Kd.S_reads' HX4.out).2.1 G3.out).mono ?_); rintro e_ x5 ⟨v5, rfl, ho5, hb5⟩; obtain ⟨A5, c5, rfl⟩ := Kd.S_slice ho5; have HX5 := Aside0.mk ho5; have HB5 := Aside0.mk (below_step hb4'.out hb5); clear ho5 hb5; have hE := event_Calls.calls (some ⟨g, 0, none⟩) cg ys1 c2 f2 x5 (Kd.C_below (Kd.S_reads' HI7.out).2.2 HB5.out) (by rw [HYL.out]; exact (Kd.S_reads' HI7.out).2.1) G2.out; rw [HYL.out] at hE; have HE := Aside0.mk hE; clear hE)
          | (go_at_call 13; (with_reducible refine HE.out.mono ?_); rintro e_ x6 ⟨v6, rfl, ho6, hb6⟩; obtain ⟨A6, c6, rfl⟩ := Kd.S_slice ho6; have HX6 := Aside0.mk ho6; have hb6' := Aside0.mk hb6; clear ho6 hb6)
          | (go_at_call 39; (with_reducible refine (larchlaw05_are.calls k2 A6 c6 c2 A5 c5 r2 true x6 (Kd.S_reads' HX6.out).2.2 (Kd.S_reads' HX6.out).2.1 (Kd.C_below (Kd.S_reads' HX5.out).2.2 hb6'.out) (Kd.S_reads' HX5.out).2.1 G4.out).mono ?_); rintro e_ x7 ⟨rfl, hb7⟩; have HB7 := Aside0.mk (below_step (below_step (below_step HK7.out.HB HB5.out) hb6'.out) hb7); clear hb7))
        go_ret
        exact ⟨rfl, HB7.out⟩
end Go.Proofs.Ytagdkmcgepidoaa.P
