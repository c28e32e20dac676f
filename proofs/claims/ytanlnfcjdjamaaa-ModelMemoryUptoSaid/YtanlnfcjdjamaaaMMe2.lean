/- P.modelMemory_holds, part 3 of 37: the contracts of the Go functions that the law calls, its own walk, and its plain law, for every input that the statement speaks of. -/
import Derived.Test.YtanlnfcjdjamaaaProg
import Derived.Below
import Derived.Deep.Draws
import Derived.Deep.AppendLies
import Derived.Maps.AppendAt
import Derived.OwnWalk
import Derived.Laws.BytesArg
import Derived.Laws.MakeOwn
import Derived.Laws.OwnMore
import Derived.Deep.OwnRows
import Derived.Tactics
import Derived.Lib.ConvBytes
import Derived.Laws.Slices
import Derived.WalkKit
import Derived.KernelRfl
import Derived.RowKit3
import Derived.Deep.LoopGhost
import Derived.Deep.QuietTactic
import Derived.BigQuiet
import Derived.WideLaws
import Derived.Deep.DeepCutAuto
import Derived.Deep.CutBlock
import Derived.Deep.RegionHeld3
import Derived.Laws.Rows
import Derived.Lib.AppendStr
import Derived.ArgAppend
import Derived.Laws.IdiomCopy
import Derived.OrdersHeld
import Derived.Laws.BitsLemmas
import Derived.RowKit
import Derived.Test.YtanlnfcjdjamaaaMMe0
import Derived.Test.YtanlnfcjdjamaaaMMe1
set_option linter.unusedVariables false
set_option linter.unusedSimpArgs false
/- F0 -/
namespace Go.Proofs.Ytanlnfcjdjamaaa.P
open Go.RowKit Go.Proofs.YtanlnfcjdjamaaaW.PrintWords Go.Proofs.YtanlnfcjdjamaaaW.PrintLast Go.Proofs.YtanlnfcjdjamaaaW.PrintMore
attribute [local go_sem] max2_int min2_int max_two min_two max_three min_three max_four min_four   -- for this text's walks alone
set_option linter.unusedVariables false
set_option linter.unusedSimpArgs false
def errW : Option Int → Value
 | none => .nilIface
 | some c => .iface 0 (.int .i64 c)
theorem errW_none : errW none = .nilIface := rfl
theorem errW_some (c : Int) : errW (some c) = .iface 0 (.int .i64 c) := rfl
theorem info3 : (Try.prog.info? 3).map (fun i => (i.zero, i.size, i.bytes)) = some (some (.int .i64 0), 1, 8) := by kernel_rfl
theorem info25 : (Try.prog.info? 25).map (fun i => (i.zero, i.size, i.bytes)) = some (some (.agg #[(.int .i64 0), (.int .i64 0), (.int .i64 0), (.int .i64 0)]), 4, 32) := by kernel_rfl
theorem info27 : (Try.prog.info? 27).map (fun i => (i.zero, i.size, i.bytes)) = some (some (.agg #[(.bool false), (.int .i64 0), (.int .i64 0), (.slice none 0 0)]), 4, 48) := by kernel_rfl
theorem info51 : (Try.prog.info? 51).map (fun i => (i.zero, i.size, i.bytes)) = some (some (.agg #[(.int .i64 0), (.int .i64 0)]), 2, 16) := by kernel_rfl
structure S51 where
 f0 : Int
 f1 : Int
def z51 : S51 := ⟨(0 : Int), (0 : Int)⟩
def k51 : Kd S51 := Kd.iso (Kd.pair (Kd.int .i64) (Kd.int .i64)) (fun x : S51 => (x.f0, x.f1))
theorem k51_open {w : World} {x : S51} {cs : List Value} (h : k51.K w x cs) : cs = [.int .i64 x.f0, .int .i64 x.f1] := by
 obtain ⟨_, _, rfl, rfl, rfl⟩ := h
 exact rfl
theorem k51_openM {w : World} {base : Nat} {ok : Nat → Prop} {x : S51} {cs : List Value} (h : k51.M w base ok x cs) : cs = [.int .i64 x.f0, .int .i64 x.f1] := by
 obtain ⟨_, _, rfl, rfl, rfl⟩ := h
 exact rfl
theorem k51_mk (w : World) (x : S51)  : k51.K w x [.int .i64 x.f0, .int .i64 x.f1] := ⟨[.int .i64 x.f0], [.int .i64 x.f1], rfl, rfl, rfl⟩
theorem k51_mkM (w : World) (base : Nat) (ok : Nat → Prop) (x : S51)  : k51.M w base ok x [.int .i64 x.f0, .int .i64 x.f1] := ⟨[.int .i64 x.f0], [.int .i64 x.f1], rfl, rfl, rfl⟩
def J51 (xs : List S51) (i : Int) : S51 := xs.getD i.toNat z51
theorem at_T51 {w : World} {A : Option Addr} {n : Nat} {xs : List S51} (h : Kd.C k51 w A n xs) (i : Int) (h0 : 0 ≤ i) (h1 : i < n) : ∃ ad , A = some ad ∧ w.cell? (ad.add (i.toNat * 2)) = some (.int .i64 (J51 xs i).f0) ∧ w.cell? ⟨(ad.add (i.toNat * 2)).block, (ad.add (i.toNat * 2)).off + 1, none⟩ = some (.int .i64 (J51 xs i).f1) := by
 obtain ⟨ad, c, e, _, hK, hc0⟩ := Kd.C_get h z51 i h0 h1
 have hc : ∀ j u, c[j]? = some u → w.cell? (ad.add (i.toNat * 2 + j)) = some u := hc0
 obtain rfl := k51_open hK
 exact ⟨ad, e, hc 0 _ rfl, by rw [← add_field _ _ 1 (by omega)]; exact hc 1 _ rfl⟩
structure S27 where
 f0 : Bool
 f1 : Int
 f2 : Int
 f3 : (List S51)
def z27 : S27 := ⟨false, (0 : Int), (0 : Int), ([] : List S51)⟩
def k27 : Kd S27 := Kd.iso (Kd.pair Kd.bool (Kd.pair (Kd.int .i64) (Kd.pair (Kd.int .i64) (Kd.slice 51 k51)))) (fun x : S27 => (x.f0, x.f1, x.f2, x.f3))
theorem k27_open {w : World} {x : S27} {cs : List Value} (h : k27.K w x cs) : ∃ A3 c3, cs = [.bool x.f0, .int .i64 x.f1, .int .i64 x.f2, .slice A3 x.f3.length c3] ∧ x.f3.length ≤ c3 ∧ k51.C w A3 x.f3.length x.f3 := by
 obtain ⟨_, _, rfl, rfl, ⟨_, _, rfl, rfl, ⟨_, _, rfl, rfl, ⟨A3, c3, rfl, l3, g3⟩⟩⟩⟩ := h
 exact ⟨A3, c3, rfl, l3, g3⟩
theorem k27_openM {w : World} {base : Nat} {ok : Nat → Prop} {x : S27} {cs : List Value} (h : k27.M w base ok x cs) : ∃ v3, cs = [.bool x.f0, .int .i64 x.f1, .int .i64 x.f2, v3] ∧ k51.R 51 w base ok v3 x.f3 := by
 obtain ⟨_, _, rfl, rfl, ⟨_, _, rfl, rfl, ⟨_, _, rfl, rfl, ⟨v3, rfl, g3⟩⟩⟩⟩ := h
 exact ⟨v3, rfl, g3⟩
theorem k27_mkM (w : World) (base : Nat) (ok : Nat → Prop) (x : S27) {v3 : Value} (g3 : k51.R 51 w base ok v3 x.f3) : k27.M w base ok x [.bool x.f0, .int .i64 x.f1, .int .i64 x.f2, v3] := ⟨[.bool x.f0], [.int .i64 x.f1, .int .i64 x.f2, v3], rfl, rfl, ⟨[.int .i64 x.f1], [.int .i64 x.f2, v3], rfl, rfl, ⟨[.int .i64 x.f2], [v3], rfl, rfl, ⟨v3, rfl, g3⟩⟩⟩⟩
def J27 (xs : List S27) (i : Int) : S27 := xs.getD i.toNat z27
theorem at_T27 {w : World} {A : Option Addr} {n : Nat} {xs : List S27} (h : Kd.C k27 w A n xs) (i : Int) (h0 : 0 ≤ i) (h1 : i < n) : ∃ ad A3 c3, A = some ad ∧ w.cell? (ad.add (i.toNat * 4)) = some (.bool (J27 xs i).f0) ∧ w.cell? ⟨(ad.add (i.toNat * 4)).block, (ad.add (i.toNat * 4)).off + 1, none⟩ = some (.int .i64 (J27 xs i).f1) ∧ w.cell? ⟨(ad.add (i.toNat * 4)).block, (ad.add (i.toNat * 4)).off + 2, none⟩ = some (.int .i64 (J27 xs i).f2) ∧ w.cell? ⟨(ad.add (i.toNat * 4)).block, (ad.add (i.toNat * 4)).off + 3, none⟩ = some (.slice A3 (J27 xs i).f3.length c3) ∧ (J27 xs i).f3.length ≤ c3 ∧ k51.C w A3 (J27 xs i).f3.length (J27 xs i).f3 := by
 obtain ⟨ad, c, e, _, hK, hc0⟩ := Kd.C_get h z27 i h0 h1
 have hc : ∀ j u, c[j]? = some u → w.cell? (ad.add (i.toNat * 4 + j)) = some u := hc0
 obtain ⟨A3, c3, rfl, l3, g3⟩ := k27_open hK
 exact ⟨ad, A3, c3, e, hc 0 _ rfl, by rw [← add_field _ _ 1 (by omega)]; exact hc 1 _ rfl, by rw [← add_field _ _ 2 (by omega)]; exact hc 2 _ rfl, by rw [← add_field _ _ 3 (by omega)]; exact hc 3 _ rfl, l3, g3⟩
structure S25 where
 f0 : Int
 f1 : Int
 f2 : Int
 f3 : Int
def z25 : S25 := ⟨(0 : Int), (0 : Int), (0 : Int), (0 : Int)⟩
def k25 : Kd S25 := Kd.iso (Kd.pair (Kd.int .i64) (Kd.pair (Kd.int .i64) (Kd.pair (Kd.int .i64) (Kd.int .i64)))) (fun x : S25 => (x.f0, x.f1, x.f2, x.f3))
theorem k25_open {w : World} {x : S25} {cs : List Value} (h : k25.K w x cs) : cs = [.int .i64 x.f0, .int .i64 x.f1, .int .i64 x.f2, .int .i64 x.f3] := by
 obtain ⟨_, _, rfl, rfl, ⟨_, _, rfl, rfl, ⟨_, _, rfl, rfl, rfl⟩⟩⟩ := h
 exact rfl
theorem k25_mk (w : World) (x : S25)  : k25.K w x [.int .i64 x.f0, .int .i64 x.f1, .int .i64 x.f2, .int .i64 x.f3] := ⟨[.int .i64 x.f0], [.int .i64 x.f1, .int .i64 x.f2, .int .i64 x.f3], rfl, rfl, ⟨[.int .i64 x.f1], [.int .i64 x.f2, .int .i64 x.f3], rfl, rfl, ⟨[.int .i64 x.f2], [.int .i64 x.f3], rfl, rfl, rfl⟩⟩⟩
def J25 (xs : List S25) (i : Int) : S25 := xs.getD i.toNat z25
theorem at_T25 {w : World} {A : Option Addr} {n : Nat} {xs : List S25} (h : Kd.C k25 w A n xs) (i : Int) (h0 : 0 ≤ i) (h1 : i < n) : ∃ ad , A = some ad ∧ w.cell? (ad.add (i.toNat * 4)) = some (.int .i64 (J25 xs i).f0) ∧ w.cell? ⟨(ad.add (i.toNat * 4)).block, (ad.add (i.toNat * 4)).off + 1, none⟩ = some (.int .i64 (J25 xs i).f1) ∧ w.cell? ⟨(ad.add (i.toNat * 4)).block, (ad.add (i.toNat * 4)).off + 2, none⟩ = some (.int .i64 (J25 xs i).f2) ∧ w.cell? ⟨(ad.add (i.toNat * 4)).block, (ad.add (i.toNat * 4)).off + 3, none⟩ = some (.int .i64 (J25 xs i).f3) := by
 obtain ⟨ad, c, e, _, hK, hc0⟩ := Kd.C_get h z25 i h0 h1
 have hc : ∀ j u, c[j]? = some u → w.cell? (ad.add (i.toNat * 4 + j)) = some u := hc0
 obtain rfl := k25_open hK
 exact ⟨ad, e, hc 0 _ rfl, by rw [← add_field _ _ 1 (by omega)]; exact hc 1 _ rfl, by rw [← add_field _ _ 2 (by omega)]; exact hc 2 _ rfl, by rw [← add_field _ _ 3 (by omega)]; exact hc 3 _ rfl⟩
end Go.Proofs.Ytanlnfcjdjamaaa.P
/- F6 -/
namespace Go.Proofs.Ytanlnfcjdjamaaa.P
open Go.RowKit Go.Proofs.YtanlnfcjdjamaaaW.PrintWords Go.Proofs.YtanlnfcjdjamaaaW.PrintLast Go.Proofs.YtanlnfcjdjamaaaW.PrintMore
attribute [local go_sem] max2_int min2_int max_two min_two max_three min_three max_four min_four   -- for this text's walks alone
set_option linter.unusedVariables false
set_option linter.unusedSimpArgs false
def cmp_isNaN_int.f (a0 : Int) : Option (Bool) := some (a0 != a0)
set_option maxHeartbeats 8000000 in
set_option maxRecDepth 100000 in
theorem cmp_isNaN_int.calls (a0 : Int) (r : Bool) (w : World) (h : cmp_isNaN_int.f a0 = some r) :
  Calls Try.prog 61 #[.int .i64 a0] w fun e w' => e = .returned (.bool r) ∧ Drawn0 w w' := by
 have H : (some (a0 != a0)) = some r := h
 clear h
 obtain rfl := Option.some.inj H
 go_enter Try.func61, Try.ntmps61
 go_wp2
 go_ret
 exact ⟨by first | rfl | (simp; done) | (simp [*]; done), by repeat (first | exact Drawn0.refl _ | apply Drawn0.step)⟩
end Go.Proofs.Ytanlnfcjdjamaaa.P
/- F7 -/
namespace Go.Proofs.Ytanlnfcjdjamaaa.P
open Go.RowKit Go.Proofs.YtanlnfcjdjamaaaW.PrintWords Go.Proofs.YtanlnfcjdjamaaaW.PrintLast Go.Proofs.YtanlnfcjdjamaaaW.PrintMore
attribute [local go_sem] max2_int min2_int max_two min_two max_three min_three max_four min_four   -- for this text's walks alone
set_option linter.unusedVariables false
set_option linter.unusedSimpArgs false
def cmp_Compare_int.f (a0 : Int) (a1 : Int) : Option (Int) := (cmp_isNaN_int.f a0).bind fun t103 => ((cmp_isNaN_int.f a1).bind fun t104 => (if t103 = true then (if t104 = true then (some 0) else (some (-1))) else (if t104 = true then (some 1) else (if a0 < a1 then (some (-1)) else (if a0 > a1 then (some 1) else (some 0))))))
set_option maxHeartbeats 8000000 in
set_option maxRecDepth 100000 in
theorem cmp_Compare_int.calls (a0 : Int) (a1 : Int) (r : Int) (w : World) (h : cmp_Compare_int.f a0 a1 = some r) :
  Calls Try.prog 54 #[.int .i64 a0, .int .i64 a1] w fun e w' => e = .returned (.int .i64 r) ∧ Drawn0 w w' := by
 have H : ((cmp_isNaN_int.f a0).bind fun t103 => ((cmp_isNaN_int.f a1).bind fun t104 => (if t103 = true then (if t104 = true then (some 0) else (some (-1))) else (if t104 = true then (some 1) else (if a0 < a1 then (some (-1)) else (if a0 > a1 then (some 1) else (some 0))))))) = some r := h
 clear h
 replace H := Option.bind_eq_some_iff.mp H
 obtain ⟨t103, A30, H⟩ := H
 replace H : ((cmp_isNaN_int.f a1).bind fun t104 => (if t103 = true then (if t104 = true then (some 0) else (some (-1))) else (if t104 = true then (some 1) else (if a0 < a1 then (some (-1)) else (if a0 > a1 then (some 1) else (some 0)))))) = some r := H
 have A3 := asd A30
 clear A30
 replace H := Option.bind_eq_some_iff.mp H
 obtain ⟨t104, A40, H⟩ := H
 replace H : (if t103 = true then (if t104 = true then (some 0) else (some (-1))) else (if t104 = true then (some 1) else (if a0 < a1 then (some (-1)) else (if a0 > a1 then (some 1) else (some 0))))) = some r := H
 have A4 := asd A40
 clear A40
 by_cases c5 : t103 = true
 ·
  subst c5
  have H1 : (if t104 = true then (some 0) else (some (-1))) = some r := by rw [if_pos rfl] at H; exact H
  clear H
  have H := H1
  clear H1
  by_cases c6 : t104 = true
  ·
   subst c6
   have H1 : (some 0) = some r := by rw [if_pos rfl] at H; exact H
   clear H
   have H := H1
   clear H1
   obtain rfl := Option.some.inj H
   go_enter Try.func54, Try.ntmps54
   go_wp2_with (first | ((with_reducible refine gate_callee (f := 61) rfl ?_); refine goesL_ (some 8) rfl rfl Try.func61 (by kernel_rfl) rfl #[.int .i64 a0] rfl ags ?_; (with_reducible refine (cmp_isNaN_int.calls a0 true _ A3.out).mono ?_); rintro e w' ⟨rfl, ⟨nd, rfl⟩⟩; refine ⟨_, rfl, ?_⟩) | ((with_reducible refine gate_callee (f := 61) rfl ?_); refine goesL_ (some 10) rfl rfl Try.func61 (by kernel_rfl) rfl #[.int .i64 a1] rfl ags ?_; (with_reducible refine (cmp_isNaN_int.calls a1 true _ A4.out).mono ?_); rintro e w' ⟨rfl, ⟨nd, rfl⟩⟩; refine ⟨_, rfl, ?_⟩))
   go_ret
   exact ⟨by first | rfl | (simp; done) | (simp [*]; done), by repeat (first | exact Drawn0.refl _ | apply Drawn0.step)⟩
  ·
   replace c6 := Bool.eq_false_iff.mpr c6
   subst c6
   have H1 : (some (-1)) = some r := by rw [if_neg (show ¬ (false = true) by decide)] at H; exact H
   clear H
   have H := H1
   clear H1
   obtain rfl := Option.some.inj H
   go_enter Try.func54, Try.ntmps54
   go_wp2_with (first | ((with_reducible refine gate_callee (f := 61) rfl ?_); refine goesL_ (some 8) rfl rfl Try.func61 (by kernel_rfl) rfl #[.int .i64 a0] rfl ags ?_; (with_reducible refine (cmp_isNaN_int.calls a0 true _ A3.out).mono ?_); rintro e w' ⟨rfl, ⟨nd, rfl⟩⟩; refine ⟨_, rfl, ?_⟩) | ((with_reducible refine gate_callee (f := 61) rfl ?_); refine goesL_ (some 10) rfl rfl Try.func61 (by kernel_rfl) rfl #[.int .i64 a1] rfl ags ?_; (with_reducible refine (cmp_isNaN_int.calls a1 false _ A4.out).mono ?_); rintro e w' ⟨rfl, ⟨nd, rfl⟩⟩; refine ⟨_, rfl, ?_⟩))
   go_ret
   exact ⟨by first | rfl | (simp; done) | (simp [*]; done), by repeat (first | exact Drawn0.refl _ | apply Drawn0.step)⟩
 ·
  replace c5 := Bool.eq_false_iff.mpr c5
  subst c5
  have H1 : (if t104 = true then (some 1) else (if a0 < a1 then (some (-1)) else (if a0 > a1 then (some 1) else (some 0)))) = some r := by rw [if_neg (show ¬ (false = true) by decide)] at H; exact H
  clear H
  have H := H1
  clear H1
  by_cases c7 : t104 = true
  ·
   subst c7
   have H1 : (some 1) = some r := by rw [if_pos rfl] at H; exact H
   clear H
   have H := H1
   clear H1
   obtain rfl := Option.some.inj H
   go_enter Try.func54, Try.ntmps54
   go_wp2_with (first | ((with_reducible refine gate_callee (f := 61) rfl ?_); refine goesL_ (some 8) rfl rfl Try.func61 (by kernel_rfl) rfl #[.int .i64 a0] rfl ags ?_; (with_reducible refine (cmp_isNaN_int.calls a0 false _ A3.out).mono ?_); rintro e w' ⟨rfl, ⟨nd, rfl⟩⟩; refine ⟨_, rfl, ?_⟩) | ((with_reducible refine gate_callee (f := 61) rfl ?_); refine goesL_ (some 10) rfl rfl Try.func61 (by kernel_rfl) rfl #[.int .i64 a1] rfl ags ?_; (with_reducible refine (cmp_isNaN_int.calls a1 true _ A4.out).mono ?_); rintro e w' ⟨rfl, ⟨nd, rfl⟩⟩; refine ⟨_, rfl, ?_⟩))
   go_ret
   exact ⟨by first | rfl | (simp; done) | (simp [*]; done), by repeat (first | exact Drawn0.refl _ | apply Drawn0.step)⟩
  ·
   replace c7 := Bool.eq_false_iff.mpr c7
   subst c7
   have H1 : (if a0 < a1 then (some (-1)) else (if a0 > a1 then (some 1) else (some 0))) = some r := by rw [if_neg (show ¬ (false = true) by decide)] at H; exact H
   clear H
   have H := H1
   clear H1
   by_cases c8 : a0 < a1
   ·
    rw [if_pos c8] at H
    have c8b0 : decide (a0 < a1) = true := decide_eq_true c8
    clear c8
    obtain rfl := Option.some.inj H
    go_enter Try.func54, Try.ntmps54
    go_wp2_with (first | ((with_reducible refine gate_callee (f := 61) rfl ?_); refine goesL_ (some 8) rfl rfl Try.func61 (by kernel_rfl) rfl #[.int .i64 a0] rfl ags ?_; (with_reducible refine (cmp_isNaN_int.calls a0 false _ A3.out).mono ?_); rintro e w' ⟨rfl, ⟨nd, rfl⟩⟩; refine ⟨_, rfl, ?_⟩) | ((with_reducible refine gate_callee (f := 61) rfl ?_); refine goesL_ (some 10) rfl rfl Try.func61 (by kernel_rfl) rfl #[.int .i64 a1] rfl ags ?_; (with_reducible refine (cmp_isNaN_int.calls a1 false _ A4.out).mono ?_); rintro e w' ⟨rfl, ⟨nd, rfl⟩⟩; refine ⟨_, rfl, ?_⟩))
    go_ret
    exact ⟨by first | rfl | (simp; done) | (simp [*]; done), by repeat (first | exact Drawn0.refl _ | apply Drawn0.step)⟩
   ·
    rw [if_neg c8] at H
    have c8b0 : decide (a0 < a1) = false := decide_eq_false c8
    clear c8
    by_cases c9 : a0 > a1
    ·
     rw [if_pos c9] at H
     have c9b0 : decide (a1 < a0) = true := decide_eq_true c9
     clear c9
     obtain rfl := Option.some.inj H
     go_enter Try.func54, Try.ntmps54
     go_wp2_with (first | ((with_reducible refine gate_callee (f := 61) rfl ?_); refine goesL_ (some 8) rfl rfl Try.func61 (by kernel_rfl) rfl #[.int .i64 a0] rfl ags ?_; (with_reducible refine (cmp_isNaN_int.calls a0 false _ A3.out).mono ?_); rintro e w' ⟨rfl, ⟨nd, rfl⟩⟩; refine ⟨_, rfl, ?_⟩) | ((with_reducible refine gate_callee (f := 61) rfl ?_); refine goesL_ (some 10) rfl rfl Try.func61 (by kernel_rfl) rfl #[.int .i64 a1] rfl ags ?_; (with_reducible refine (cmp_isNaN_int.calls a1 false _ A4.out).mono ?_); rintro e w' ⟨rfl, ⟨nd, rfl⟩⟩; refine ⟨_, rfl, ?_⟩))
     go_ret
     exact ⟨by first | rfl | (simp; done) | (simp [*]; done), by repeat (first | exact Drawn0.refl _ | apply Drawn0.step)⟩
    ·
     rw [if_neg c9] at H
     have c9b0 : decide (a1 < a0) = false := decide_eq_false c9
     clear c9
     obtain rfl := Option.some.inj H
     go_enter Try.func54, Try.ntmps54
     go_wp2_with (first | ((with_reducible refine gate_callee (f := 61) rfl ?_); refine goesL_ (some 8) rfl rfl Try.func61 (by kernel_rfl) rfl #[.int .i64 a0] rfl ags ?_; (with_reducible refine (cmp_isNaN_int.calls a0 false _ A3.out).mono ?_); rintro e w' ⟨rfl, ⟨nd, rfl⟩⟩; refine ⟨_, rfl, ?_⟩) | ((with_reducible refine gate_callee (f := 61) rfl ?_); refine goesL_ (some 10) rfl rfl Try.func61 (by kernel_rfl) rfl #[.int .i64 a1] rfl ags ?_; (with_reducible refine (cmp_isNaN_int.calls a1 false _ A4.out).mono ?_); rintro e w' ⟨rfl, ⟨nd, rfl⟩⟩; refine ⟨_, rfl, ?_⟩))
     go_ret
     exact ⟨by first | rfl | (simp; done) | (simp [*]; done), by repeat (first | exact Drawn0.refl _ | apply Drawn0.step)⟩
end Go.Proofs.Ytanlnfcjdjamaaa.P
/- F8 -/
namespace Go.Proofs.Ytanlnfcjdjamaaa.P
open Go.RowKit Go.Proofs.YtanlnfcjdjamaaaW.PrintWords Go.Proofs.YtanlnfcjdjamaaaW.PrintLast Go.Proofs.YtanlnfcjdjamaaaW.PrintMore
attribute [local go_sem] max2_int min2_int max_two min_two max_three min_three max_four min_four   -- for this text's walks alone
set_option linter.unusedVariables false
set_option linter.unusedSimpArgs false
def model_byKey.f (a0_0 : Int) (a0_1 : Int) (a1_0 : Int) (a1_1 : Int) : Option (Int) := (cmp_Compare_int.f a0_0 a1_0).bind fun t107 => (some t107)
set_option maxHeartbeats 8000000 in
set_option maxRecDepth 100000 in
theorem model_byKey.calls (a0_0 : Int) (a0_1 : Int) (a1_0 : Int) (a1_1 : Int) (r : Int) (w : World) (h : model_byKey.f a0_0 a0_1 a1_0 a1_1 = some r) :
  Calls Try.prog 43 #[.agg #[.int .i64 a0_0, .int .i64 a0_1], .agg #[.int .i64 a1_0, .int .i64 a1_1]] w fun e w' => e = .returned (.int .i64 r) ∧ Below w.heap.size w w' := by
 have hu51 := Try.underlying51
 have HB := asd (Below.refl w.heap.size w)
 have H : ((cmp_Compare_int.f a0_0 a1_0).bind fun t107 => (some t107)) = some r := h
 clear h
 replace H := Option.bind_eq_some_iff.mp H
 obtain ⟨t107, A30, H⟩ := H
 replace H : (some t107) = some r := H
 have A3 := asd A30
 clear A30
 obtain rfl := Option.some.inj H
 go_enter Try.func43, Try.ntmps43
 go_wp2_with (first | ((with_reducible refine gate_dst (N := 2) rfl ?_); refine box_event ?hg (N := 2) ?hd (cs := #[.int .i64 a0_0, .int .i64 a0_1]) (t := 51) ?hr ?_; (case hd => rfl); (case hg => rfl); (case hr => first | (go_simp; done) | (go_simp; rfl)); intro gb105 hg w4 hbox hb; have n0_ := asd (below_step (skB HB.out) hb); have n1_ := asd (hbox); have n2_ := asd ((by rw [hg]; exact (below_size (skB HB.out)) : w.heap.size ≤ gb105)); have n3_ := asd ((by rw [hg]; exact (below_size (skB HB.out)) : w.heap.size ≤ gb105)); clear HB; have HB := n0_; have BK105 := n1_; have GW105 := n2_; have GE105 := n3_; clear n0_ n1_ n2_ n3_; clear hb hbox hg) | ((with_reducible refine gate_dst (N := 3) rfl ?_); refine box_event ?hg (N := 3) ?hd (cs := #[.int .i64 a1_0, .int .i64 a1_1]) (t := 51) ?hr ?_; (case hd => rfl); (case hg => rfl); (case hr => first | (go_simp; done) | (go_simp; rfl)); intro gb106 hg w5 hbox hb; have n0_ := asd (blk_below (g := gb105) (o := .cells #[.int .i64 a0_0, .int .i64 a0_1] 51 (0, 0)) (skK BK105.out) hb); have n1_ := asd (below_step (skG HB.out GE105.out GE105.out) hb); have n2_ := asd (hbox); have n3_ := asd ((by rw [hg]; exact (below_size (skG HB.out GE105.out GE105.out)) : w.heap.size ≤ gb106)); have n4_ := asd ((by rw [hg]; exact (below_size (skG HB.out GE105.out GE105.out)) : w.heap.size ≤ gb106)); have n5_ := asd ((by rw [hg]; exact Nat.ne_of_lt (blk_lt (g := gb105) (o := .cells #[.int .i64 a0_0, .int .i64 a0_1] 51 (0, 0)) (skK BK105.out)) : gb105 ≠ gb106)); have n6_ := asd ((by rw [hg]; exact Nat.ne_of_gt (blk_lt (g := gb105) (o := .cells #[.int .i64 a0_0, .int .i64 a0_1] 51 (0, 0)) (skK BK105.out)) : gb106 ≠ gb105)); clear BK105; clear HB; have BK105 := n0_; have HB := n1_; have BK106 := n2_; have GW106 := n3_; have GE106 := n4_; have NB105_106 := n5_; have NB106_105 := n6_; clear n0_ n1_ n2_ n3_ n4_ n5_ n6_; clear hb hbox hg; have hnb6 := NB105_106.out; have hnc6 := NB106_105.out; obtain ⟨hcz7_0, hcz7_1, hfz7_0, hfz7_1⟩ := bk2 BK105.out; obtain ⟨hcz8_0, hcz8_1, hfz8_0, hfz8_1⟩ := bk2 BK106.out) | ((with_reducible refine gate_callee (f := 54) rfl ?_); refine goesL_ (some 9) rfl rfl Try.func54 (by kernel_rfl) rfl #[.int .i64 a0_0, .int .i64 a1_0] rfl ags ?_; (with_reducible refine (cmp_Compare_int.calls a0_0 a1_0 t107 _ A3.out).mono ?_); rintro e w' ⟨rfl, ⟨nd, rfl⟩⟩; refine ⟨_, rfl, ?_⟩))
 go_ret
 exact ⟨re, skG HB.out GE105.out GE106.out⟩
end Go.Proofs.Ytanlnfcjdjamaaa.P
/- F12 -/
namespace Go.Proofs.Ytanlnfcjdjamaaa.P
open Go.RowKit Go.Proofs.YtanlnfcjdjamaaaW.PrintWords Go.Proofs.YtanlnfcjdjamaaaW.PrintLast Go.Proofs.YtanlnfcjdjamaaaW.PrintMore
attribute [local go_sem] max2_int min2_int max_two min_two max_three min_three max_four min_four   -- for this text's walks alone
set_option linter.unusedVariables false
set_option linter.unusedSimpArgs false
def model_told.f (l0 : List (S51)) (a1 : Int) : Option (Bool × Int × Int × (List (S51))) := if a1 < 0 then (some (false, 0, 0, ([] : List (S51)))) else (if a1 ≥ (l0.length : Int) then (some (false, 0, 0, ([] : List (S51)))) else (if 0 ≤ a1 then (if a1 < (l0.length : Int) then (some (true, (J51 l0 a1).f0, (J51 l0 a1).f1, ([] : List (S51)))) else (none)) else (none)))
def model_told.T3 : Bool × List (List Nat × List Nat) := (true, [([], []), ([], []), ([0, 1], [0, 1]), ([2], [2]), ([3], [3]), ([], []), ([], []), ([5, 6], [5, 6]), ([7], [7]), ([8], [8]), ([4, 9], [4, 9]), ([10, 0, 1, 2, 3, 4, 5, 6, 7, 8, 9, 10], [10])])
def model_told.B3 : List Nat := [0, 0, 3, 7, 15, 0, 0, 96, 224, 480, 1023, 2047]
theorem model_told.tab3 : rtab .any (opsOf Try.f56 3) = model_told.T3 := by kernel_rfl
theorem model_told.bits3 : waitsOk model_told.T3.2 model_told.B3 = true := by kernel_rfl
set_option maxHeartbeats 8000000 in
set_option maxRecDepth 100000 in
theorem model_told.calls (A0 : Option Addr) (c0 : Nat) (l0 : List (S51)) (a1 : Int) (r1 : Bool) (r2 : Int) (r3 : Int) (r4 : List (S51)) (w : World) (hr0 : Kd.C k51 w A0 l0.length l0) (hc0 : l0.length ≤ c0) (h : model_told.f l0 a1 = some (r1, r2, r3, r4)) :
  Calls Try.prog 56 #[.slice A0 l0.length c0, .int .i64 a1] w fun e w' => ∃ v3_ : Value, e = .returned (.agg #[.bool r1, .int .i64 r2, .int .i64 r3, v3_]) ∧ Kd.R k51 51 w' w.heap.size (fun _ => True) v3_ r4 ∧ Below w.heap.size w w' := by
 have hu27 := Try.underlying27
 have HR0 := asd hr0
 have HC0 := asd hc0
 clear hr0 hc0
 have HB := asd (Below.refl w.heap.size w)
 have H : (if a1 < 0 then (some (false, 0, 0, ([] : List (S51)))) else (if a1 ≥ (l0.length : Int) then (some (false, 0, 0, ([] : List (S51)))) else (if 0 ≤ a1 then (if a1 < (l0.length : Int) then (some (true, (J51 l0 a1).f0, (J51 l0 a1).f1, ([] : List (S51)))) else (none)) else (none)))) = some (r1, r2, r3, r4) := h
 clear h
 by_cases c3 : a1 < 0
 ·
  rw [if_pos c3] at H
  have c3b0 : decide (a1 < 0) = true := decide_eq_true c3
  clear c3
  simp only [Option.some.injEq, Prod.mk.injEq] at H
  obtain ⟨rfl, rfl, rfl, rfl⟩ := H
  go_enter Try.func56, Try.ntmps56
  go_wp2_with (first | ((with_reducible refine gate_dst (N := 4) rfl ?_); (try (refine gate_guard (by rfl) ?_; dsimp only)); refine box_event ?hg (N := 4) ?hd (cs := #[.bool false, .int .i64 0, .int .i64 0, .slice none 0 0]) (t := 27) ?hr ?_; (case hd => rfl); (case hg => rfl); (case hr => first | (go_simp; done) | (go_simp; rfl)); intro gb108 hg w4 hbox hb; have n0_ := asd (below_step (skB HB.out) hb); have n1_ := asd (hbox); have n2_ := asd ((by rw [hg]; exact (below_size (skB HB.out)) : w.heap.size ≤ gb108)); have n3_ := asd ((by rw [hg]; exact (below_size (skB HB.out)) : w.heap.size ≤ gb108)); clear HB; have HB := n0_; have BK108 := n1_; have GW108 := n2_; have GE108 := n3_; clear n0_ n1_ n2_ n3_; clear hb hbox hg; obtain ⟨hcz5_0, hcz5_1, hcz5_2, hcz5_3, hfz5_0, hfz5_1, hfz5_2, hfz5_3⟩ := bk4 BK108.out))
  refine bodyPost_ret (results_cell_row rfl _ _ gb108 27 #[.bool false, .int .i64 0, .int .i64 0, .slice none 0 0] (0, 0) _ rfl (by refine skk ?_; refine blk_put (cs := #[.bool false, .int .i64 0, .int .i64 0, .slice none 0 0]) ?_ 3 _ rfl; refine skk ?_; refine blk_put (cs := #[.bool false, .int .i64 0, .int .i64 0, .slice none 0 0]) ?_ 2 _ rfl; refine skk ?_; refine blk_put (cs := #[.bool false, .int .i64 0, .int .i64 0, .slice none 0 0]) ?_ 1 _ rfl; refine skk ?_; refine blk_put (cs := #[.bool false, .int .i64 0, .int .i64 0, .slice none 0 0]) ?_ 0 _ rfl; refine skk ?_; exact BK108.out) Try.underlying27 rfl (by kernel_rfl)) rfl ?_
  exact ⟨_, re, by first | exact Kd.R_nil _ _ _ _ _ | exact Kd.N_nil _ _ _ _ _ | exact Kd.V_nil _ _ _ _ _ | exact Kd.Q_nil _ _ _ _ _ | exact Kd.S_nil _ _ _ _ _, skG HB.out GE108.out GE108.out⟩
 ·
  rw [if_neg c3] at H
  have c3b0 : decide (a1 < 0) = false := decide_eq_false c3
  clear c3
  by_cases c6 : a1 ≥ (l0.length : Int)
  ·
   rw [if_pos c6] at H
   have c6b0 : decide ((l0.length : Int) ≤ a1) = true := decide_eq_true c6
   clear c6
   simp only [Option.some.injEq, Prod.mk.injEq] at H
   obtain ⟨rfl, rfl, rfl, rfl⟩ := H
   go_enter Try.func56, Try.ntmps56
   go_wp2_with (first | ((with_reducible refine gate_dst (N := 4) rfl ?_); (try (refine gate_guard (by rfl) ?_; dsimp only)); refine box_event ?hg (N := 4) ?hd (cs := #[.bool false, .int .i64 0, .int .i64 0, .slice none 0 0]) (t := 27) ?hr ?_; (case hd => rfl); (case hg => rfl); (case hr => first | (go_simp; done) | (go_simp; rfl)); intro gb108 hg w7 hbox hb; have n0_ := asd (below_step (skB HB.out) hb); have n1_ := asd (hbox); have n2_ := asd ((by rw [hg]; exact (below_size (skB HB.out)) : w.heap.size ≤ gb108)); have n3_ := asd ((by rw [hg]; exact (below_size (skB HB.out)) : w.heap.size ≤ gb108)); clear HB; have HB := n0_; have BK108 := n1_; have GW108 := n2_; have GE108 := n3_; clear n0_ n1_ n2_ n3_; clear hb hbox hg; obtain ⟨hcz8_0, hcz8_1, hcz8_2, hcz8_3, hfz8_0, hfz8_1, hfz8_2, hfz8_3⟩ := bk4 BK108.out))
   refine bodyPost_ret (results_cell_row rfl _ _ gb108 27 #[.bool false, .int .i64 0, .int .i64 0, .slice none 0 0] (0, 0) _ rfl (by refine skk ?_; refine blk_put (cs := #[.bool false, .int .i64 0, .int .i64 0, .slice none 0 0]) ?_ 3 _ rfl; refine skk ?_; refine blk_put (cs := #[.bool false, .int .i64 0, .int .i64 0, .slice none 0 0]) ?_ 2 _ rfl; refine skk ?_; refine blk_put (cs := #[.bool false, .int .i64 0, .int .i64 0, .slice none 0 0]) ?_ 1 _ rfl; refine skk ?_; refine blk_put (cs := #[.bool false, .int .i64 0, .int .i64 0, .slice none 0 0]) ?_ 0 _ rfl; refine skk ?_; exact BK108.out) Try.underlying27 rfl (by kernel_rfl)) rfl ?_
   exact ⟨_, re, by first | exact Kd.R_nil _ _ _ _ _ | exact Kd.N_nil _ _ _ _ _ | exact Kd.V_nil _ _ _ _ _ | exact Kd.Q_nil _ _ _ _ _ | exact Kd.S_nil _ _ _ _ _, skG HB.out GE108.out GE108.out⟩
  ·
   rw [if_neg c6] at H
   have c6b0 : decide ((l0.length : Int) ≤ a1) = false := decide_eq_false c6
   clear c6
   by_cases c9 : 0 ≤ a1
   ·
    rw [if_pos c9] at H
    have c9b0 : decide (0 ≤ a1) = true := decide_eq_true c9
    clear c9
    by_cases c10 : a1 < (l0.length : Int)
    ·
     rw [if_pos c10] at H
     have c10b0 : decide (a1 < (l0.length : Int)) = true := decide_eq_true c10
     clear c10
     simp only [Option.some.injEq, Prod.mk.injEq] at H
     obtain ⟨rfl, rfl, rfl, rfl⟩ := H
     go_enter Try.func56, Try.ntmps56
     try go_wp2_with (first | ((with_reducible refine gate_dst (N := 4) rfl ?_); (try (refine gate_guard (by rfl) ?_; dsimp only)); refine box_event ?hg (N := 4) ?hd (cs := #[.bool false, .int .i64 0, .int .i64 0, .slice none 0 0]) (t := 27) ?hr ?_; (case hd => rfl); (case hg => rfl); (case hr => first | (go_simp; done) | (go_simp; rfl)); intro gb108 hg w11 hbox hb; have n0_ := asd (below_step (skB HB.out) hb); have n1_ := asd (hbox); have n2_ := asd ((by rw [hg]; exact (below_size (skB HB.out)) : w.heap.size ≤ gb108)); have n3_ := asd ((by rw [hg]; exact (below_size (skB HB.out)) : w.heap.size ≤ gb108)); clear HB; have HB := n0_; have BK108 := n1_; have GW108 := n2_; have GE108 := n3_; clear n0_ n1_ n2_ n3_; clear hb hbox hg))
     have n0_ := asd (blk_drew BK108.out)
     have n1_ := asd (below_drew1 HB.out)
     clear BK108
     clear HB
     have BK108 := n0_
     have HB := n1_
     clear n0_ n1_
     have p109 : 0 ≤ (a1 : Int) := dt
     have q109 : a1 < (l0.length : Int) := dt
     obtain ⟨ad109, e109, hx109_0, hx109_1⟩ := at_T51 HR0.out a1 p109 q109
     have hw109_1 := hx109_1
     have hw109_0 := hx109_0
     cases e109
     replace hx109_0 := skc HB.out hx109_0
     replace hx109_1 := skc HB.out hx109_1
     replace p109 := eq_true p109
     replace q109 := eq_true q109
     have p110 : 0 ≤ (a1 : Int) := dt
     have q110 : a1 < (l0.length : Int) := dt
     obtain ⟨ad110, e110, hx110_0, hx110_1⟩ := at_T51 HR0.out a1 p110 q110
     have hw110_1 := hx110_1
     have hw110_0 := hx110_0
     obtain rfl : ad109 = ad110 := (by injection e110)
     replace hx110_0 := skc HB.out hx110_0
     replace hx110_1 := skc HB.out hx110_1
     replace p110 := eq_true p110
     replace q110 := eq_true q110
     refine start_ (n := 12) (S := fun w' => w'.cell? (ad109.add ((a1).toNat * 2)) = some (.int .i64 ((J51 l0 a1).f0)) ∧ w'.cell? ⟨(ad109.add ((a1).toNat * 2)).block, (ad109.add ((a1).toNat * 2)).off + 1, none⟩ = some (.int .i64 ((J51 l0 a1).f1)) ∧ w'.cell? (ad109.add ((a1).toNat * 2)) = some (.int .i64 ((J51 l0 a1).f0)) ∧ w'.cell? ⟨(ad109.add ((a1).toNat * 2)).block, (ad109.add ((a1).toNat * 2)).off + 1, none⟩ = some (.int .i64 ((J51 l0 a1).f1))) (ds := []) #[false,false,false,false,false,false,false,false,false,false,false,false] (by kernel_rfl) rfl rfl ⟨(skc HB.out hw109_0), (skc HB.out hw109_1), (skc HB.out hw110_0), (skc HB.out hw110_1)⟩ (fun hHeld => ?_); refine with_tabW model_told.tab3 model_told.bits3 (fun HT_ HW_ => ?_)
     generalize w11.drew = w12 at BK108 HB hx109_0 hx109_1 hx110_0 hx110_1 hHeld ⊢
     refine pure_ (i := 0) (N := some 14) (v := ?_) (a' := ?_) #[true,false,false,false,false,false,false,false,false,false,false,false] rfl rfl (aK HT_.out) (fun _ _ _ h => h) (Or.inl ⟨by rfl, ?_⟩) ?_ ?_
     rotate_left
     ·
      intro w'
      go_simp
      with_reducible rfl
     rotate_left
     ·
      simp only [Act.put, sp]
      rfl
     refine pure_ (i := 1) (N := some 15) (v := ?_) (a' := ?_) #[true,true,false,false,false,false,false,false,false,false,false,false] rfl rfl (aK HT_.out) (fun _ _ _ h => h) (Or.inl ⟨by rfl, ?_⟩) ?_ ?_
     rotate_left
     ·
      intro w'
      go_simp
      with_reducible rfl
     rotate_left
     ·
      simp only [Act.put, sp]
      rfl
     refine pure_ (i := 2) (N := some 16) (v := ?_) (a' := ?_) #[true,true,true,false,false,false,false,false,false,false,false,false] rfl rfl (aK HT_.out) (fun _ _ _ h => h) (Or.inl ⟨by rfl, ?_⟩) ?_ ?_
     rotate_left
     ·
      intro w'
      go_simp
      with_reducible rfl
     rotate_left
     ·
      simp only [Act.put, sp]
      rfl
     refine pure_ (i := 3) (N := some 17) (v := ?_) (a' := ?_) #[true,true,true,true,false,false,false,false,false,false,false,false] rfl rfl (aK HT_.out) (fun _ _ _ h => h) (Or.inl ⟨by rfl, ?_⟩) ?_ ?_
     rotate_left
     ·
      intro w'
      go_simp
      with_reducible rfl
     rotate_left
     ·
      simp only [Act.put, sp]
      rfl
     refine pure_ (i := 5) (N := some 19) (v := ?_) (a' := ?_) #[true,true,true,true,false,true,false,false,false,false,false,false] rfl rfl (aK HT_.out) (fun _ _ _ h => h) (Or.inl ⟨by rfl, ?_⟩) ?_ ?_
     rotate_left
     ·
      intro w'
      go_simp
      with_reducible rfl
     rotate_left
     ·
      simp only [Act.put, sp]
      rfl
     refine pure_ (i := 6) (N := some 20) (v := ?_) (a' := ?_) #[true,true,true,true,false,true,true,false,false,false,false,false] rfl rfl (aK HT_.out) (fun _ _ _ h => h) (Or.inl ⟨by rfl, ?_⟩) ?_ ?_
     rotate_left
     ·
      intro w'
      go_simp
      with_reducible rfl
     rotate_left
     ·
      simp only [Act.put, sp]
      rfl
     refine pure_ (i := 7) (N := some 21) (v := ?_) (a' := ?_) #[true,true,true,true,false,true,true,true,false,false,false,false] rfl rfl (aK HT_.out) (fun _ _ _ h => h) (Or.inl ⟨by rfl, ?_⟩) ?_ ?_
     rotate_left
     ·
      intro w'
      go_simp
      with_reducible rfl
     rotate_left
     ·
      simp only [Act.put, sp]
      rfl
     refine pure_ (i := 8) (N := some 22) (v := ?_) (a' := ?_) #[true,true,true,true,false,true,true,true,true,false,false,false] rfl rfl (aK HT_.out) (fun _ _ _ h => h) (Or.inl ⟨by rfl, ?_⟩) ?_ ?_
     rotate_left
     ·
      intro w'
      go_simp
      with_reducible rfl
     rotate_left
     ·
      simp only [Act.put, sp]
      rfl
     refine take_ (i := 4) (N := some 18) (v := ?_) (a' := ?_) #[true,true,true,true,true,true,true,true,true,false,false,false] rfl rfl (take_ofW HT_.out HW_.out (by kernel_rfl)) (fun _ _ _ h => h) (Or.inl ⟨by rfl, ?_⟩) hHeld ?_ ?_
     rotate_left
     ·
      rintro w' ⟨s0, s1, s2, s3⟩
      go_simp
      with_reducible rfl
     rotate_left
     ·
      simp only [Act.put, sp]
      rfl
     refine take_ (i := 9) (N := some 23) (v := ?_) (a' := ?_) #[true,true,true,true,true,true,true,true,true,true,false,false] rfl rfl (take_ofW HT_.out HW_.out (by kernel_rfl)) (fun _ _ _ h => h) (Or.inl ⟨by rfl, ?_⟩) hHeld ?_ ?_
     rotate_left
     ·
      rintro w' ⟨s0, s1, s2, s3⟩
      go_simp
      with_reducible rfl
     rotate_left
     ·
      simp only [Act.put, sp]
      rfl
     refine pure_ (i := 10) (N := some 24) (v := ?_) (a' := ?_) #[true,true,true,true,true,true,true,true,true,true,true,false] rfl rfl (aK HT_.out) (fun _ _ _ h => h) (Or.inl ⟨by rfl, ?_⟩) ?_ ?_
     rotate_left
     ·
      intro w'
      go_simp
      with_reducible rfl
     rotate_left
     ·
      simp only [Act.put, sp]
      rfl
     refine one_ (i := 11) (N := none) #[true,true,true,true,true,true,true,true,true,true,true,true] rfl rfl (one_of HT_.out (by kernel_rfl)) (by decide) (fun K hK => ?_)
     have hs13 : w12.cell? ⟨gb108, 0, none⟩ = some (.bool false) := (blk_cell BK108.out 0).trans rfl
     have hfs13 := blk_frozen BK108.out 0
     have hs14 : w12.cell? ⟨gb108, 1, none⟩ = some (.int .i64 0) := (blk_cell BK108.out 1).trans rfl
     have hfs14 := blk_frozen BK108.out 1
     have hs15 : w12.cell? ⟨gb108, 2, none⟩ = some (.int .i64 0) := (blk_cell BK108.out 2).trans rfl
     have hfs15 := blk_frozen BK108.out 2
     have hs16 : w12.cell? ⟨gb108, 3, none⟩ = some (.slice none 0 0) := (blk_cell BK108.out 3).trans rfl
     have hfs16 := blk_frozen BK108.out 3
     refine skip_ (w1 := ?_) (by rfl) rfl ?_ ?_
     rotate_left
     ·
      go_simp
      rfl
     refine hK.out _ _ ⟨((cell_far (p := ⟨gb108, _, none⟩) (by first | exact Nat.ne_of_lt (Nat.lt_of_lt_of_le (by have := World.block_lt_of_cell? _ _ hw109_0; first | rwa [add_block] at this | exact this) GW108.out) | (rw [add_block]; exact Nat.ne_of_lt (Nat.lt_of_lt_of_le (by have := World.block_lt_of_cell? _ _ hw109_0; first | rwa [add_block] at this | exact this) GW108.out)) | (show (Addr.add _ _).block ≠ _; rw [add_block]; exact Nat.ne_of_lt (Nat.lt_of_lt_of_le (by have := World.block_lt_of_cell? _ _ hw109_0; first | rwa [add_block] at this | exact this) GW108.out)) | (dsimp only; exact Nat.ne_of_lt (Nat.lt_of_lt_of_le (by have := World.block_lt_of_cell? _ _ hw109_0; first | rwa [add_block] at this | exact this) GW108.out))) _).trans (((cell_far (p := ⟨gb108, _, none⟩) (by first | exact Nat.ne_of_lt (Nat.lt_of_lt_of_le (by have := World.block_lt_of_cell? _ _ hw109_0; first | rwa [add_block] at this | exact this) GW108.out) | (rw [add_block]; exact Nat.ne_of_lt (Nat.lt_of_lt_of_le (by have := World.block_lt_of_cell? _ _ hw109_0; first | rwa [add_block] at this | exact this) GW108.out)) | (show (Addr.add _ _).block ≠ _; rw [add_block]; exact Nat.ne_of_lt (Nat.lt_of_lt_of_le (by have := World.block_lt_of_cell? _ _ hw109_0; first | rwa [add_block] at this | exact this) GW108.out)) | (dsimp only; exact Nat.ne_of_lt (Nat.lt_of_lt_of_le (by have := World.block_lt_of_cell? _ _ hw109_0; first | rwa [add_block] at this | exact this) GW108.out))) _).trans (((cell_far (p := ⟨gb108, _, none⟩) (by first | exact Nat.ne_of_lt (Nat.lt_of_lt_of_le (by have := World.block_lt_of_cell? _ _ hw109_0; first | rwa [add_block] at this | exact this) GW108.out) | (rw [add_block]; exact Nat.ne_of_lt (Nat.lt_of_lt_of_le (by have := World.block_lt_of_cell? _ _ hw109_0; first | rwa [add_block] at this | exact this) GW108.out)) | (show (Addr.add _ _).block ≠ _; rw [add_block]; exact Nat.ne_of_lt (Nat.lt_of_lt_of_le (by have := World.block_lt_of_cell? _ _ hw109_0; first | rwa [add_block] at this | exact this) GW108.out)) | (dsimp only; exact Nat.ne_of_lt (Nat.lt_of_lt_of_le (by have := World.block_lt_of_cell? _ _ hw109_0; first | rwa [add_block] at this | exact this) GW108.out))) _).trans (((cell_far (p := ⟨gb108, _, none⟩) (by first | exact Nat.ne_of_lt (Nat.lt_of_lt_of_le (by have := World.block_lt_of_cell? _ _ hw109_0; first | rwa [add_block] at this | exact this) GW108.out) | (rw [add_block]; exact Nat.ne_of_lt (Nat.lt_of_lt_of_le (by have := World.block_lt_of_cell? _ _ hw109_0; first | rwa [add_block] at this | exact this) GW108.out)) | (show (Addr.add _ _).block ≠ _; rw [add_block]; exact Nat.ne_of_lt (Nat.lt_of_lt_of_le (by have := World.block_lt_of_cell? _ _ hw109_0; first | rwa [add_block] at this | exact this) GW108.out)) | (dsimp only; exact Nat.ne_of_lt (Nat.lt_of_lt_of_le (by have := World.block_lt_of_cell? _ _ hw109_0; first | rwa [add_block] at this | exact this) GW108.out))) _).trans (hHeld.1)))))))), ((cell_far (p := ⟨gb108, _, none⟩) (by first | exact Nat.ne_of_lt (Nat.lt_of_lt_of_le (by have := World.block_lt_of_cell? _ _ hw109_1; first | rwa [add_block] at this | exact this) GW108.out) | (rw [add_block]; exact Nat.ne_of_lt (Nat.lt_of_lt_of_le (by have := World.block_lt_of_cell? _ _ hw109_1; first | rwa [add_block] at this | exact this) GW108.out)) | (show (Addr.add _ _).block ≠ _; rw [add_block]; exact Nat.ne_of_lt (Nat.lt_of_lt_of_le (by have := World.block_lt_of_cell? _ _ hw109_1; first | rwa [add_block] at this | exact this) GW108.out)) | (dsimp only; exact Nat.ne_of_lt (Nat.lt_of_lt_of_le (by have := World.block_lt_of_cell? _ _ hw109_1; first | rwa [add_block] at this | exact this) GW108.out))) _).trans (((cell_far (p := ⟨gb108, _, none⟩) (by first | exact Nat.ne_of_lt (Nat.lt_of_lt_of_le (by have := World.block_lt_of_cell? _ _ hw109_1; first | rwa [add_block] at this | exact this) GW108.out) | (rw [add_block]; exact Nat.ne_of_lt (Nat.lt_of_lt_of_le (by have := World.block_lt_of_cell? _ _ hw109_1; first | rwa [add_block] at this | exact this) GW108.out)) | (show (Addr.add _ _).block ≠ _; rw [add_block]; exact Nat.ne_of_lt (Nat.lt_of_lt_of_le (by have := World.block_lt_of_cell? _ _ hw109_1; first | rwa [add_block] at this | exact this) GW108.out)) | (dsimp only; exact Nat.ne_of_lt (Nat.lt_of_lt_of_le (by have := World.block_lt_of_cell? _ _ hw109_1; first | rwa [add_block] at this | exact this) GW108.out))) _).trans (((cell_far (p := ⟨gb108, _, none⟩) (by first | exact Nat.ne_of_lt (Nat.lt_of_lt_of_le (by have := World.block_lt_of_cell? _ _ hw109_1; first | rwa [add_block] at this | exact this) GW108.out) | (rw [add_block]; exact Nat.ne_of_lt (Nat.lt_of_lt_of_le (by have := World.block_lt_of_cell? _ _ hw109_1; first | rwa [add_block] at this | exact this) GW108.out)) | (show (Addr.add _ _).block ≠ _; rw [add_block]; exact Nat.ne_of_lt (Nat.lt_of_lt_of_le (by have := World.block_lt_of_cell? _ _ hw109_1; first | rwa [add_block] at this | exact this) GW108.out)) | (dsimp only; exact Nat.ne_of_lt (Nat.lt_of_lt_of_le (by have := World.block_lt_of_cell? _ _ hw109_1; first | rwa [add_block] at this | exact this) GW108.out))) _).trans (((cell_far (p := ⟨gb108, _, none⟩) (by first | exact Nat.ne_of_lt (Nat.lt_of_lt_of_le (by have := World.block_lt_of_cell? _ _ hw109_1; first | rwa [add_block] at this | exact this) GW108.out) | (rw [add_block]; exact Nat.ne_of_lt (Nat.lt_of_lt_of_le (by have := World.block_lt_of_cell? _ _ hw109_1; first | rwa [add_block] at this | exact this) GW108.out)) | (show (Addr.add _ _).block ≠ _; rw [add_block]; exact Nat.ne_of_lt (Nat.lt_of_lt_of_le (by have := World.block_lt_of_cell? _ _ hw109_1; first | rwa [add_block] at this | exact this) GW108.out)) | (dsimp only; exact Nat.ne_of_lt (Nat.lt_of_lt_of_le (by have := World.block_lt_of_cell? _ _ hw109_1; first | rwa [add_block] at this | exact this) GW108.out))) _).trans (hHeld.2.1)))))))), ((cell_far (p := ⟨gb108, _, none⟩) (by first | exact Nat.ne_of_lt (Nat.lt_of_lt_of_le (by have := World.block_lt_of_cell? _ _ hw110_0; first | rwa [add_block] at this | exact this) GW108.out) | (rw [add_block]; exact Nat.ne_of_lt (Nat.lt_of_lt_of_le (by have := World.block_lt_of_cell? _ _ hw110_0; first | rwa [add_block] at this | exact this) GW108.out)) | (show (Addr.add _ _).block ≠ _; rw [add_block]; exact Nat.ne_of_lt (Nat.lt_of_lt_of_le (by have := World.block_lt_of_cell? _ _ hw110_0; first | rwa [add_block] at this | exact this) GW108.out)) | (dsimp only; exact Nat.ne_of_lt (Nat.lt_of_lt_of_le (by have := World.block_lt_of_cell? _ _ hw110_0; first | rwa [add_block] at this | exact this) GW108.out))) _).trans (((cell_far (p := ⟨gb108, _, none⟩) (by first | exact Nat.ne_of_lt (Nat.lt_of_lt_of_le (by have := World.block_lt_of_cell? _ _ hw110_0; first | rwa [add_block] at this | exact this) GW108.out) | (rw [add_block]; exact Nat.ne_of_lt (Nat.lt_of_lt_of_le (by have := World.block_lt_of_cell? _ _ hw110_0; first | rwa [add_block] at this | exact this) GW108.out)) | (show (Addr.add _ _).block ≠ _; rw [add_block]; exact Nat.ne_of_lt (Nat.lt_of_lt_of_le (by have := World.block_lt_of_cell? _ _ hw110_0; first | rwa [add_block] at this | exact this) GW108.out)) | (dsimp only; exact Nat.ne_of_lt (Nat.lt_of_lt_of_le (by have := World.block_lt_of_cell? _ _ hw110_0; first | rwa [add_block] at this | exact this) GW108.out))) _).trans (((cell_far (p := ⟨gb108, _, none⟩) (by first | exact Nat.ne_of_lt (Nat.lt_of_lt_of_le (by have := World.block_lt_of_cell? _ _ hw110_0; first | rwa [add_block] at this | exact this) GW108.out) | (rw [add_block]; exact Nat.ne_of_lt (Nat.lt_of_lt_of_le (by have := World.block_lt_of_cell? _ _ hw110_0; first | rwa [add_block] at this | exact this) GW108.out)) | (show (Addr.add _ _).block ≠ _; rw [add_block]; exact Nat.ne_of_lt (Nat.lt_of_lt_of_le (by have := World.block_lt_of_cell? _ _ hw110_0; first | rwa [add_block] at this | exact this) GW108.out)) | (dsimp only; exact Nat.ne_of_lt (Nat.lt_of_lt_of_le (by have := World.block_lt_of_cell? _ _ hw110_0; first | rwa [add_block] at this | exact this) GW108.out))) _).trans (((cell_far (p := ⟨gb108, _, none⟩) (by first | exact Nat.ne_of_lt (Nat.lt_of_lt_of_le (by have := World.block_lt_of_cell? _ _ hw110_0; first | rwa [add_block] at this | exact this) GW108.out) | (rw [add_block]; exact Nat.ne_of_lt (Nat.lt_of_lt_of_le (by have := World.block_lt_of_cell? _ _ hw110_0; first | rwa [add_block] at this | exact this) GW108.out)) | (show (Addr.add _ _).block ≠ _; rw [add_block]; exact Nat.ne_of_lt (Nat.lt_of_lt_of_le (by have := World.block_lt_of_cell? _ _ hw110_0; first | rwa [add_block] at this | exact this) GW108.out)) | (dsimp only; exact Nat.ne_of_lt (Nat.lt_of_lt_of_le (by have := World.block_lt_of_cell? _ _ hw110_0; first | rwa [add_block] at this | exact this) GW108.out))) _).trans (hHeld.2.2.1)))))))), ((cell_far (p := ⟨gb108, _, none⟩) (by first | exact Nat.ne_of_lt (Nat.lt_of_lt_of_le (by have := World.block_lt_of_cell? _ _ hw110_1; first | rwa [add_block] at this | exact this) GW108.out) | (rw [add_block]; exact Nat.ne_of_lt (Nat.lt_of_lt_of_le (by have := World.block_lt_of_cell? _ _ hw110_1; first | rwa [add_block] at this | exact this) GW108.out)) | (show (Addr.add _ _).block ≠ _; rw [add_block]; exact Nat.ne_of_lt (Nat.lt_of_lt_of_le (by have := World.block_lt_of_cell? _ _ hw110_1; first | rwa [add_block] at this | exact this) GW108.out)) | (dsimp only; exact Nat.ne_of_lt (Nat.lt_of_lt_of_le (by have := World.block_lt_of_cell? _ _ hw110_1; first | rwa [add_block] at this | exact this) GW108.out))) _).trans (((cell_far (p := ⟨gb108, _, none⟩) (by first | exact Nat.ne_of_lt (Nat.lt_of_lt_of_le (by have := World.block_lt_of_cell? _ _ hw110_1; first | rwa [add_block] at this | exact this) GW108.out) | (rw [add_block]; exact Nat.ne_of_lt (Nat.lt_of_lt_of_le (by have := World.block_lt_of_cell? _ _ hw110_1; first | rwa [add_block] at this | exact this) GW108.out)) | (show (Addr.add _ _).block ≠ _; rw [add_block]; exact Nat.ne_of_lt (Nat.lt_of_lt_of_le (by have := World.block_lt_of_cell? _ _ hw110_1; first | rwa [add_block] at this | exact this) GW108.out)) | (dsimp only; exact Nat.ne_of_lt (Nat.lt_of_lt_of_le (by have := World.block_lt_of_cell? _ _ hw110_1; first | rwa [add_block] at this | exact this) GW108.out))) _).trans (((cell_far (p := ⟨gb108, _, none⟩) (by first | exact Nat.ne_of_lt (Nat.lt_of_lt_of_le (by have := World.block_lt_of_cell? _ _ hw110_1; first | rwa [add_block] at this | exact this) GW108.out) | (rw [add_block]; exact Nat.ne_of_lt (Nat.lt_of_lt_of_le (by have := World.block_lt_of_cell? _ _ hw110_1; first | rwa [add_block] at this | exact this) GW108.out)) | (show (Addr.add _ _).block ≠ _; rw [add_block]; exact Nat.ne_of_lt (Nat.lt_of_lt_of_le (by have := World.block_lt_of_cell? _ _ hw110_1; first | rwa [add_block] at this | exact this) GW108.out)) | (dsimp only; exact Nat.ne_of_lt (Nat.lt_of_lt_of_le (by have := World.block_lt_of_cell? _ _ hw110_1; first | rwa [add_block] at this | exact this) GW108.out))) _).trans (((cell_far (p := ⟨gb108, _, none⟩) (by first | exact Nat.ne_of_lt (Nat.lt_of_lt_of_le (by have := World.block_lt_of_cell? _ _ hw110_1; first | rwa [add_block] at this | exact this) GW108.out) | (rw [add_block]; exact Nat.ne_of_lt (Nat.lt_of_lt_of_le (by have := World.block_lt_of_cell? _ _ hw110_1; first | rwa [add_block] at this | exact this) GW108.out)) | (show (Addr.add _ _).block ≠ _; rw [add_block]; exact Nat.ne_of_lt (Nat.lt_of_lt_of_le (by have := World.block_lt_of_cell? _ _ hw110_1; first | rwa [add_block] at this | exact this) GW108.out)) | (dsimp only; exact Nat.ne_of_lt (Nat.lt_of_lt_of_le (by have := World.block_lt_of_cell? _ _ hw110_1; first | rwa [add_block] at this | exact this) GW108.out))) _).trans (hHeld.2.2.2))))))))⟩ (fun hHeld => ?_)
     clear hK K
     refine done_ (done_of HT_.out (by kernel_rfl)) ?_
     try go_wp2
     refine bodyPost_ret (results_cell_row rfl _ _ gb108 27 #[.bool true, .int .i64 ((J51 l0 a1).f0), .int .i64 ((J51 l0 a1).f1), .slice none 0 0] (0, 0) _ rfl (by refine skk ?_; refine blk_put (cs := #[.bool true, .int .i64 ((J51 l0 a1).f0), .int .i64 ((J51 l0 a1).f1), .slice none 0 0]) ?_ 3 _ rfl; refine skk ?_; refine blk_put (cs := #[.bool true, .int .i64 ((J51 l0 a1).f0), .int .i64 0, .slice none 0 0]) ?_ 2 _ rfl; refine skk ?_; refine blk_put (cs := #[.bool true, .int .i64 0, .int .i64 0, .slice none 0 0]) ?_ 1 _ rfl; refine skk ?_; refine blk_put (cs := #[.bool false, .int .i64 0, .int .i64 0, .slice none 0 0]) ?_ 0 _ rfl; refine skk ?_; exact BK108.out) Try.underlying27 rfl (by kernel_rfl)) rfl ?_
     exact ⟨_, re, by first | exact Kd.R_nil _ _ _ _ _ | exact Kd.N_nil _ _ _ _ _ | exact Kd.V_nil _ _ _ _ _ | exact Kd.Q_nil _ _ _ _ _ | exact Kd.S_nil _ _ _ _ _, skG HB.out GE108.out GE108.out⟩
    ·
     rw [if_neg c10] at H
     exact absurd H (by simp)
   ·
    rw [if_neg c9] at H
    exact absurd H (by simp)
end Go.Proofs.Ytanlnfcjdjamaaa.P
/- F2 -/
namespace Go.Proofs.Ytanlnfcjdjamaaa.P
open Go.RowKit Go.Proofs.YtanlnfcjdjamaaaW.PrintWords Go.Proofs.YtanlnfcjdjamaaaW.PrintLast Go.Proofs.YtanlnfcjdjamaaaW.PrintMore
attribute [local go_sem] max2_int min2_int max_two min_two max_three min_three max_four min_four   -- for this text's walks alone
set_option linter.unusedVariables false
set_option linter.unusedSimpArgs false
def model_Check.l0 : Nat → List (S51) → Int → Option (Int)
 | 0, _, _ => none
 | k + 1, x0, x3 => if x3 < (x0.length : Int) then (if 0 ≤ (wrap64 (x3 - 1)) then (if (wrap64 (x3 - 1)) < (x0.length : Int) then (if 0 ≤ x3 then (if ((J51 x0 (wrap64 (x3 - 1))).f0) ≥ ((J51 x0 x3).f0) then (some 11) else (model_Check.l0 k x0 (wrap64 (x3 + 1)))) else (none)) else (none)) else (none)) else (some 0)
def model_Check.f (k : Nat) (l0 : List (S51)) : Option (Int) := model_Check.l0 k l0 1
theorem model_Check.mono_l : ∀ k, (∀ y0 y1, LeO (model_Check.l0 k y0 y1) (model_Check.l0 (k + 1) y0 y1))
 | 0 => fun _ _ r h => by simp [model_Check.l0] at h
 | k + 1 => by
  have ih0 := model_Check.mono_l k
  ·
   intro y0 y1
   unfold model_Check.l0
   repeat' first
   | (with_reducible exact ih0 _ _)
   | (with_reducible exact LeO.refl _)
   | (with_reducible exact LeO.none _)
   | (with_reducible refine LeO.ite ?_ ?_)
   | (with_reducible refine LeO.bind ?_ (fun _ => ?_))
   | exact ih0 _ _
   | exact LeO.none _
   | refine LeO.ite ?_ ?_
   | refine LeO.bind ?_ (fun _ => ?_)
theorem model_Check.mono : ∀ a0 k, LeO (model_Check.f k a0) (model_Check.f (k + 1) a0) := by
 intro a0 k
 have ih0 := model_Check.mono_l k
 unfold model_Check.f
 repeat' first
   | (with_reducible exact ih0 _ _)
   | (with_reducible exact LeO.refl _)
   | (with_reducible exact LeO.none _)
   | (with_reducible refine LeO.ite ?_ ?_)
   | (with_reducible refine LeO.bind ?_ (fun _ => ?_))
   | exact ih0 _ _
   | exact LeO.none _
   | refine LeO.ite ?_ ?_
   | refine LeO.bind ?_ (fun _ => ?_)
set_option maxHeartbeats 8000000 in
set_option maxRecDepth 100000 in
theorem model_Check.calls (k : Nat) (A0 : Option Addr) (c0 : Nat) (l0 : List (S51)) (r : Int) (w : World) (hr0 : Kd.C k51 w A0 l0.length l0) (hc0 : l0.length ≤ c0) (h : model_Check.f k l0 = some r) :
  Calls Try.prog 21 #[.slice A0 l0.length c0] w fun e w' => e = .returned (.int .i64 r) ∧ Drawn0 w w' := by
 have HR0 := asd hr0
 have HC0 := asd hc0
 clear hr0 hc0
 have H : (model_Check.l0 k l0 1) = some r := h
 clear h
 have H' := asd H
 clear H
 go_enter Try.func21, Try.ntmps21
 go_wp2
 repeat (go_quiet (fail); try go_wp2)
 go_loopg [3] k (fun kq v3 w' => ∃ (x3_1 : Int), v3 = .int .i64 x3_1 ∧ Aside0 (model_Check.l0 kq l0 x3_1 = some r) ∧ Aside0 (kq ≤ k) ∧ Drawn0 w w')
 case atStart => exact ⟨(1), rs, H', ⟨Nat.le_refl _⟩, by repeat (first | exact Drawn0.refl _ | apply Drawn0.step)⟩
 case round =>
  clear H'
  obtain ⟨x3_1, rfl, HA, HK1, ⟨m1, rfl⟩⟩ := hrel
  cases gk with
  | zero => exact absurd HA.out (by simp [model_Check.l0])
  | succ k1 =>
   have H := HA.out
   clear HA
   simp only [model_Check.l0] at H
   by_cases c2 : x3_1 < (l0.length : Int)
   ·
    rw [if_pos c2] at H
    have c2b0 : decide (x3_1 < (l0.length : Int)) = true := decide_eq_true c2
    clear c2
    obtain ⟨ji3, hji3⟩ : ∃ j_ : Int, (wrap64 (x3_1 - 1)) = j_ := ⟨_, rfl⟩
    replace H : (if 0 ≤ (ji3) then (if (ji3) < (l0.length : Int) then (if 0 ≤ x3_1 then (if ((J51 l0 (ji3)).f0) ≥ ((J51 l0 x3_1).f0) then (some 11) else (model_Check.l0 k1 l0 (wrap64 (x3_1 + 1)))) else (none)) else (none)) else (none)) = some r := by first | (rw [hji3] at H; exact H) | (simp only [hji3] at H ⊢; exact H)
    have hji3w : (IntKind.i64.wrap (x3_1 - 1)) = ji3 := (i64_w _).trans hji3
    by_cases c4 : 0 ≤ (ji3)
    ·
     rw [if_pos c4] at H
     have c4b0 : decide (0 ≤ (ji3)) = true := decide_eq_true c4
     clear c4
     by_cases c5 : (ji3) < (l0.length : Int)
     ·
      rw [if_pos c5] at H
      have c5b0 : decide ((ji3) < (l0.length : Int)) = true := decide_eq_true c5
      clear c5
      by_cases c6 : 0 ≤ x3_1
      ·
       rw [if_pos c6] at H
       have c6b0 : decide (0 ≤ x3_1) = true := decide_eq_true c6
       clear c6
       by_cases c7 : ((J51 l0 (ji3)).f0) ≥ ((J51 l0 x3_1).f0)
       ·
        rw [if_pos c7] at H
        have c7b0 : decide (((J51 l0 x3_1).f0) ≤ ((J51 l0 (ji3)).f0)) = true := decide_eq_true c7
        clear c7
        obtain rfl := Option.some.inj H
        have p101 : 0 ≤ ((ji3) : Int) := dt
        have q101 : (ji3) < (l0.length : Int) := dt
        obtain ⟨ad101, e101, hx101_0, hx101_1⟩ := at_T51 HR0.out (ji3) p101 q101
        cases e101
        replace p101 := eq_true p101
        replace q101 := eq_true q101
        have p102 : 0 ≤ (x3_1 : Int) := dt
        have q102 : x3_1 < (l0.length : Int) := dt
        obtain ⟨ad102, e102, hx102_0, hx102_1⟩ := at_T51 HR0.out x3_1 p102 q102
        obtain rfl : ad101 = ad102 := (by injection e102)
        replace p102 := eq_true p102
        replace q102 := eq_true q102
        go_wp2
        repeat (go_quiet (fail); try go_wp2)
        go_ret
        exact ⟨by first | rfl | (simp; done) | (simp only [← hji3] <;> (first | rfl | simp)) | (simp [*]; done), by repeat (first | exact Drawn0.refl _ | apply Drawn0.step)⟩
       ·
        rw [if_neg c7] at H
        have c7b0 : decide (((J51 l0 x3_1).f0) ≤ ((J51 l0 (ji3)).f0)) = false := decide_eq_false c7
        clear c7
        have H' := asd H
        clear H
        have p101 : 0 ≤ ((ji3) : Int) := dt
        have q101 : (ji3) < (l0.length : Int) := dt
        obtain ⟨ad101, e101, hx101_0, hx101_1⟩ := at_T51 HR0.out (ji3) p101 q101
        cases e101
        replace p101 := eq_true p101
        replace q101 := eq_true q101
        have p102 : 0 ≤ (x3_1 : Int) := dt
        have q102 : x3_1 < (l0.length : Int) := dt
        obtain ⟨ad102, e102, hx102_0, hx102_1⟩ := at_T51 HR0.out x3_1 p102 q102
        obtain rfl : ad101 = ad102 := (by injection e102)
        replace p102 := eq_true p102
        replace q102 := eq_true q102
        go_wp2
        repeat (go_quiet (fail); try go_wp2)
        go_roundg k1
        case measure => have := HK1.out; omega
        case rel => exact ⟨(wrap64 (x3_1 + 1)), rs, H', ⟨by have := HK1.out; omega⟩, by repeat (first | exact Drawn0.refl _ | apply Drawn0.step)⟩
      ·
       rw [if_neg c6] at H
       exact absurd H (by simp)
     ·
      rw [if_neg c5] at H
      exact absurd H (by simp)
    ·
     rw [if_neg c4] at H
     exact absurd H (by simp)
   ·
    rw [if_neg c2] at H
    have c2b0 : decide (x3_1 < (l0.length : Int)) = false := decide_eq_false c2
    clear c2
    obtain rfl := Option.some.inj H
    go_wp2
    repeat (go_quiet (fail); try go_wp2)
    go_ret
    exact ⟨by first | rfl | (simp; done) | (simp [*]; done), by repeat (first | exact Drawn0.refl _ | apply Drawn0.step)⟩
end Go.Proofs.Ytanlnfcjdjamaaa.P
/- F1 -/
namespace Go.Proofs.Ytanlnfcjdjamaaa.P
open Go.RowKit Go.Proofs.YtanlnfcjdjamaaaW.PrintWords Go.Proofs.YtanlnfcjdjamaaaW.PrintLast Go.Proofs.YtanlnfcjdjamaaaW.PrintMore
attribute [local go_sem] max2_int min2_int max_two min_two max_three min_three max_four min_four   -- for this text's walks alone
set_option linter.unusedVariables false
set_option linter.unusedSimpArgs false
theorem eqA51 (d : Nat) (w : World) (x0 y0 : Int) (x1 y1 : Int) :
  (Op.equalIn (d + 2) 51 (.agg #[.int .i64 x0, .int .i64 x1]) (.agg #[.int .i64 y0, .int .i64 y1])).run Try.prog w = .ok (x0 == y0 && (x1 == y1)) w := by
 refine eqA_of Try.underlying51 (by kernel_rfl) ?_
 refine eqf_cons (by rfl) (by go_simp; rfl) (by go_simp; rfl) (by go_simp) ?_
 exact eqf_last (by rfl) (by go_simp; rfl) (by go_simp; rfl) (by go_simp)
end Go.Proofs.Ytanlnfcjdjamaaa.P
/- F23 -/
namespace Go.Proofs.Ytanlnfcjdjamaaa.P
open Go.RowKit Go.Proofs.YtanlnfcjdjamaaaW.PrintWords Go.Proofs.YtanlnfcjdjamaaaW.PrintLast Go.Proofs.YtanlnfcjdjamaaaW.PrintMore
attribute [local go_sem] max2_int min2_int max_two min_two max_three min_three max_four min_four   -- for this text's walks alone
set_option linter.unusedVariables false
set_option linter.unusedSimpArgs false
attribute [local go_sem high] eqA51
def larchref06_Same.l0 : Nat → List (S51) → List (S51) → Int → Option (Bool)
 | 0, _, _, _ => none
 | k + 1, x0, x1, x5 => if x5 < (x0.length : Int) then (if 0 ≤ x5 then (if x5 < (x1.length : Int) then (if (!(((J51 x0 x5).f0) == ((J51 x1 x5).f0)) || (!(((J51 x0 x5).f1) == ((J51 x1 x5).f1)))) = true then (some false) else (larchref06_Same.l0 k x0 x1 (wrap64 (x5 + 1)))) else (none)) else (none)) else (some true)
def larchref06_Same.f (k : Nat) (l0 : List (S51)) (l1 : List (S51)) : Option (Bool) := if (l0.length : Int) = (l1.length : Int) then (larchref06_Same.l0 k l0 l1 0) else (some false)
theorem larchref06_Same.mono_l : ∀ k, (∀ y0 y1 y2, LeO (larchref06_Same.l0 k y0 y1 y2) (larchref06_Same.l0 (k + 1) y0 y1 y2))
 | 0 => fun _ _ _ r h => by simp [larchref06_Same.l0] at h
 | k + 1 => by
  have ih0 := larchref06_Same.mono_l k
  ·
   intro y0 y1 y2
   unfold larchref06_Same.l0
   repeat' first
   | (with_reducible exact ih0 _ _ _)
   | (with_reducible exact LeO.refl _)
   | (with_reducible exact LeO.none _)
   | (with_reducible refine LeO.ite ?_ ?_)
   | (with_reducible refine LeO.bind ?_ (fun _ => ?_))
   | exact ih0 _ _ _
   | exact LeO.none _
   | refine LeO.ite ?_ ?_
   | refine LeO.bind ?_ (fun _ => ?_)
theorem larchref06_Same.mono : ∀ a0 a1 k, LeO (larchref06_Same.f k a0 a1) (larchref06_Same.f (k + 1) a0 a1) := by
 intro a0 a1 k
 have ih0 := larchref06_Same.mono_l k
 unfold larchref06_Same.f
 repeat' first
   | (with_reducible exact ih0 _ _ _)
   | (with_reducible exact LeO.refl _)
   | (with_reducible exact LeO.none _)
   | (with_reducible refine LeO.ite ?_ ?_)
   | (with_reducible refine LeO.bind ?_ (fun _ => ?_))
   | exact ih0 _ _ _
   | exact LeO.none _
   | refine LeO.ite ?_ ?_
   | refine LeO.bind ?_ (fun _ => ?_)
set_option maxHeartbeats 8000000 in
set_option maxRecDepth 100000 in
theorem larchref06_Same.calls (k : Nat) (A0 : Option Addr) (c0 : Nat) (l0 : List (S51)) (A1 : Option Addr) (c1 : Nat) (l1 : List (S51)) (r : Bool) (w : World) (hr0 : Kd.C k51 w A0 l0.length l0) (hc0 : l0.length ≤ c0) (hr1 : Kd.C k51 w A1 l1.length l1) (hc1 : l1.length ≤ c1) (h : larchref06_Same.f k l0 l1 = some r) :
  Calls Try.prog 12 #[.slice A0 l0.length c0, .slice A1 l1.length c1] w fun e w' => e = .returned (.bool r) ∧ Drawn0 w w' := by
 have hu51 := Try.underlying51
 have HR0 := asd hr0
 have HC0 := asd hc0
 clear hr0 hc0
 have HR1 := asd hr1
 have HC1 := asd hc1
 clear hr1 hc1
 have H : (if (l0.length : Int) = (l1.length : Int) then (larchref06_Same.l0 k l0 l1 0) else (some false)) = some r := h
 clear h
 by_cases c3 : (l0.length : Int) = (l1.length : Int)
 ·
  rw [if_pos c3] at H
  have c3b0 : ((l0.length : Int) == (l1.length : Int)) = true := beq_iff_eq.mpr c3
  have c3b1 : ((l0.length : Int) != (l1.length : Int)) = false := bne_eq_false_iff_eq.mpr c3
  have c3b2 : (l0.length == l1.length) = true := by first | simpa using c3 | (simp at c3 ⊢; omega)
  clear c3
  have H' := asd H
  clear H
  go_enter Try.func12, Try.ntmps12
  go_wp2
  repeat (go_quiet (fail); try go_wp2)
  go_loopg [5] k (fun kq v5 w' => ∃ (x5_1 : Int), v5 = .int .i64 x5_1 ∧ Aside0 (larchref06_Same.l0 kq l0 l1 x5_1 = some r) ∧ Aside0 (kq ≤ k) ∧ Drawn0 w w')
  case atStart => exact ⟨(0), rs, H', ⟨Nat.le_refl _⟩, by repeat (first | exact Drawn0.refl _ | apply Drawn0.step)⟩
  case round =>
   clear H'
   try clear c1
   try clear p2
   try clear c3
   try clear c3b0
   try clear c3b1
   try clear c3b2
   obtain ⟨x5_1, rfl, HA, HK1, ⟨m1, rfl⟩⟩ := hrel
   cases gk with
   | zero => exact absurd HA.out (by simp [larchref06_Same.l0])
   | succ k1 =>
    have H := HA.out
    clear HA
    simp only [larchref06_Same.l0] at H
    by_cases c4 : x5_1 < (l0.length : Int)
    ·
     rw [if_pos c4] at H
     have c4b0 : decide (x5_1 < (l0.length : Int)) = true := decide_eq_true c4
     clear c4
     by_cases c5 : 0 ≤ x5_1
     ·
      rw [if_pos c5] at H
      have c5b0 : decide (0 ≤ x5_1) = true := decide_eq_true c5
      clear c5
      by_cases c6 : x5_1 < (l1.length : Int)
      ·
       rw [if_pos c6] at H
       have c6b0 : decide (x5_1 < (l1.length : Int)) = true := decide_eq_true c6
       clear c6
       by_cases c7 : (!(((J51 l0 x5_1).f0) == ((J51 l1 x5_1).f0)) || (!(((J51 l0 x5_1).f1) == ((J51 l1 x5_1).f1)))) = true
       ·
        rw [if_pos c7] at H
        have c7b0 : (!(((J51 l0 x5_1).f0) == ((J51 l1 x5_1).f0)) || (!(((J51 l0 x5_1).f1) == ((J51 l1 x5_1).f1)))) = true := c7
        clear c7
        obtain rfl := Option.some.inj H
        have p164 : 0 ≤ (x5_1 : Int) := dt
        have q164 : x5_1 < (l0.length : Int) := dt
        obtain ⟨ad164, e164, hx164_0, hx164_1⟩ := at_T51 HR0.out x5_1 p164 q164
        cases e164
        replace p164 := eq_true p164
        replace q164 := eq_true q164
        have p165 : 0 ≤ (x5_1 : Int) := dt
        have q165 : x5_1 < (l1.length : Int) := dt
        obtain ⟨ad165, e165, hx165_0, hx165_1⟩ := at_T51 HR1.out x5_1 p165 q165
        cases e165
        replace p165 := eq_true p165
        replace q165 := eq_true q165
        go_wp2
        repeat (go_quiet (fail); try go_wp2)
        go_ret
        exact ⟨by first | rfl | (simp; done) | (simp [*]; done), by repeat (first | exact Drawn0.refl _ | apply Drawn0.step)⟩
       ·
        rw [if_neg c7] at H
        have c7b0 : (!(((J51 l0 x5_1).f0) == ((J51 l1 x5_1).f0)) || (!(((J51 l0 x5_1).f1) == ((J51 l1 x5_1).f1)))) = false := by simpa using c7
        clear c7
        have H' := asd H
        clear H
        have p164 : 0 ≤ (x5_1 : Int) := dt
        have q164 : x5_1 < (l0.length : Int) := dt
        obtain ⟨ad164, e164, hx164_0, hx164_1⟩ := at_T51 HR0.out x5_1 p164 q164
        cases e164
        replace p164 := eq_true p164
        replace q164 := eq_true q164
        have p165 : 0 ≤ (x5_1 : Int) := dt
        have q165 : x5_1 < (l1.length : Int) := dt
        obtain ⟨ad165, e165, hx165_0, hx165_1⟩ := at_T51 HR1.out x5_1 p165 q165
        cases e165
        replace p165 := eq_true p165
        replace q165 := eq_true q165
        go_wp2
        repeat (go_quiet (fail); try go_wp2)
        go_roundg k1
        case measure => have := HK1.out; omega
        case rel => exact ⟨(wrap64 (x5_1 + 1)), rs, H', ⟨by have := HK1.out; omega⟩, by repeat (first | exact Drawn0.refl _ | apply Drawn0.step)⟩
      ·
       rw [if_neg c6] at H
       exact absurd H (by simp)
     ·
      rw [if_neg c5] at H
      exact absurd H (by simp)
    ·
     rw [if_neg c4] at H
     have c4b0 : decide (x5_1 < (l0.length : Int)) = false := decide_eq_false c4
     clear c4
     obtain rfl := Option.some.inj H
     go_wp2
     repeat (go_quiet (fail); try go_wp2)
     go_ret
     exact ⟨by first | rfl | (simp; done) | (simp [*]; done), by repeat (first | exact Drawn0.refl _ | apply Drawn0.step)⟩
 ·
  rw [if_neg c3] at H
  have c3b0 : ((l0.length : Int) == (l1.length : Int)) = false := beq_eq_false_iff_ne.mpr c3
  have c3b1 : ((l0.length : Int) != (l1.length : Int)) = true := bne_iff_ne.mpr c3
  have c3b2 : (l0.length == l1.length) = false := by first | simpa using c3 | (simp at c3 ⊢; omega)
  obtain rfl := Option.some.inj H
  go_enter Try.func12, Try.ntmps12
  go_wp2
  repeat (go_quiet (fail); try go_wp2)
  go_ret
  exact ⟨by first | rfl | (simp; done) | (simp [*]; done), by repeat (first | exact Drawn0.refl _ | apply Drawn0.step)⟩
end Go.Proofs.Ytanlnfcjdjamaaa.P
/- F28 -/
namespace Go.Proofs.Ytanlnfcjdjamaaa.P
open Go.RowKit Go.Proofs.YtanlnfcjdjamaaaW.PrintWords Go.Proofs.YtanlnfcjdjamaaaW.PrintLast Go.Proofs.YtanlnfcjdjamaaaW.PrintMore
attribute [local go_sem] max2_int min2_int max_two min_two max_three min_three max_four min_four   -- for this text's walks alone
set_option linter.unusedVariables false
set_option linter.unusedSimpArgs false
def larchref06_Check.l0 : Nat → List (S51) → Int → Option (Int)
 | 0, _, _ => none
 | k + 1, x0, x3 => if x3 < (x0.length : Int) then (if 0 ≤ x3 then (if 0 ≤ (wrap64 (x3 - 1)) then (if (wrap64 (x3 - 1)) < (x0.length : Int) then (if ((J51 x0 x3).f0) ≤ ((J51 x0 (wrap64 (x3 - 1))).f0) then (some 11) else (larchref06_Check.l0 k x0 (wrap64 (x3 + 1)))) else (none)) else (none)) else (none)) else (some 0)
def larchref06_Check.f (k : Nat) (l0 : List (S51)) : Option (Int) := larchref06_Check.l0 k l0 1
set_option maxHeartbeats 8000000 in
set_option maxRecDepth 100000 in
theorem larchref06_Check.calls (k : Nat) (A0 : Option Addr) (c0 : Nat) (l0 : List (S51)) (r : Int) (w : World) (hr0 : Kd.C k51 w A0 l0.length l0) (hc0 : l0.length ≤ c0) (h : larchref06_Check.f k l0 = some r) :
  Calls Try.prog 30 #[.slice A0 l0.length c0] w fun e w' => e = .returned (.int .i64 r) ∧ Drawn0 w w' := by
 have HR0 := asd hr0
 have HC0 := asd hc0
 clear hr0 hc0
 have H : (larchref06_Check.l0 k l0 1) = some r := h
 clear h
 have H' := asd H
 clear H
 go_enter Try.func30, Try.ntmps30
 go_wp2
 repeat (go_quiet (fail); try go_wp2)
 go_loopg [3] k (fun kq v3 w' => ∃ (x3_1 : Int), v3 = .int .i64 x3_1 ∧ Aside0 (larchref06_Check.l0 kq l0 x3_1 = some r) ∧ Aside0 (kq ≤ k) ∧ Drawn0 w w')
 case atStart => exact ⟨(1), rs, H', ⟨Nat.le_refl _⟩, by repeat (first | exact Drawn0.refl _ | apply Drawn0.step)⟩
 case round =>
  clear H'
  obtain ⟨x3_1, rfl, HA, HK1, ⟨m1, rfl⟩⟩ := hrel
  cases gk with
  | zero => exact absurd HA.out (by simp [larchref06_Check.l0])
  | succ k1 =>
   have H := HA.out
   clear HA
   simp only [larchref06_Check.l0] at H
   by_cases c2 : x3_1 < (l0.length : Int)
   ·
    rw [if_pos c2] at H
    have c2b0 : decide (x3_1 < (l0.length : Int)) = true := decide_eq_true c2
    clear c2
    by_cases c3 : 0 ≤ x3_1
    ·
     rw [if_pos c3] at H
     have c3b0 : decide (0 ≤ x3_1) = true := decide_eq_true c3
     clear c3
     obtain ⟨ji4, hji4⟩ : ∃ j_ : Int, (wrap64 (x3_1 - 1)) = j_ := ⟨_, rfl⟩
     replace H : (if 0 ≤ (ji4) then (if (ji4) < (l0.length : Int) then (if ((J51 l0 x3_1).f0) ≤ ((J51 l0 (ji4)).f0) then (some 11) else (larchref06_Check.l0 k1 l0 (wrap64 (x3_1 + 1)))) else (none)) else (none)) = some r := by first | (rw [hji4] at H; exact H) | (simp only [hji4] at H ⊢; exact H)
     have hji4w : (IntKind.i64.wrap (x3_1 - 1)) = ji4 := (i64_w _).trans hji4
     by_cases c5 : 0 ≤ (ji4)
     ·
      rw [if_pos c5] at H
      have c5b0 : decide (0 ≤ (ji4)) = true := decide_eq_true c5
      clear c5
      by_cases c6 : (ji4) < (l0.length : Int)
      ·
       rw [if_pos c6] at H
       have c6b0 : decide ((ji4) < (l0.length : Int)) = true := decide_eq_true c6
       clear c6
       by_cases c7 : ((J51 l0 x3_1).f0) ≤ ((J51 l0 (ji4)).f0)
       ·
        rw [if_pos c7] at H
        have c7b0 : decide (((J51 l0 x3_1).f0) ≤ ((J51 l0 (ji4)).f0)) = true := decide_eq_true c7
        clear c7
        obtain rfl := Option.some.inj H
        have p215 : 0 ≤ (x3_1 : Int) := dt
        have q215 : x3_1 < (l0.length : Int) := dt
        obtain ⟨ad215, e215, hx215_0, hx215_1⟩ := at_T51 HR0.out x3_1 p215 q215
        cases e215
        replace p215 := eq_true p215
        replace q215 := eq_true q215
        have p216 : 0 ≤ ((ji4) : Int) := dt
        have q216 : (ji4) < (l0.length : Int) := dt
        obtain ⟨ad216, e216, hx216_0, hx216_1⟩ := at_T51 HR0.out (ji4) p216 q216
        obtain rfl : ad215 = ad216 := (by injection e216)
        replace p216 := eq_true p216
        replace q216 := eq_true q216
        go_wp2
        repeat (go_quiet (fail); try go_wp2)
        go_ret
        exact ⟨by first | rfl | (simp; done) | (simp only [← hji4] <;> (first | rfl | simp)) | (simp [*]; done), by repeat (first | exact Drawn0.refl _ | apply Drawn0.step)⟩
       ·
        rw [if_neg c7] at H
        have c7b0 : decide (((J51 l0 x3_1).f0) ≤ ((J51 l0 (ji4)).f0)) = false := decide_eq_false c7
        clear c7
        have H' := asd H
        clear H
        have p215 : 0 ≤ (x3_1 : Int) := dt
        have q215 : x3_1 < (l0.length : Int) := dt
        obtain ⟨ad215, e215, hx215_0, hx215_1⟩ := at_T51 HR0.out x3_1 p215 q215
        cases e215
        replace p215 := eq_true p215
        replace q215 := eq_true q215
        have p216 : 0 ≤ ((ji4) : Int) := dt
        have q216 : (ji4) < (l0.length : Int) := dt
        obtain ⟨ad216, e216, hx216_0, hx216_1⟩ := at_T51 HR0.out (ji4) p216 q216
        obtain rfl : ad215 = ad216 := (by injection e216)
        replace p216 := eq_true p216
        replace q216 := eq_true q216
        go_wp2
        repeat (go_quiet (fail); try go_wp2)
        go_roundg k1
        case measure => have := HK1.out; omega
        case rel => exact ⟨(wrap64 (x3_1 + 1)), rs, H', ⟨by have := HK1.out; omega⟩, by repeat (first | exact Drawn0.refl _ | apply Drawn0.step)⟩
      ·
       rw [if_neg c6] at H
       exact absurd H (by simp)
     ·
      rw [if_neg c5] at H
      exact absurd H (by simp)
    ·
     rw [if_neg c3] at H
     exact absurd H (by simp)
   ·
    rw [if_neg c2] at H
    have c2b0 : decide (x3_1 < (l0.length : Int)) = false := decide_eq_false c2
    clear c2
    obtain rfl := Option.some.inj H
    go_wp2
    repeat (go_quiet (fail); try go_wp2)
    go_ret
    exact ⟨by first | rfl | (simp; done) | (simp [*]; done), by repeat (first | exact Drawn0.refl _ | apply Drawn0.step)⟩
end Go.Proofs.Ytanlnfcjdjamaaa.P
/- F30 -/
namespace Go.Proofs.Ytanlnfcjdjamaaa.P
open Go.RowKit Go.Proofs.YtanlnfcjdjamaaaW.PrintWords Go.Proofs.YtanlnfcjdjamaaaW.PrintLast Go.Proofs.YtanlnfcjdjamaaaW.PrintMore
attribute [local go_sem] max2_int min2_int max_two min_two max_three min_three max_four min_four   -- for this text's walks alone
set_option linter.unusedVariables false
set_option linter.unusedSimpArgs false
def larchref06_Inside.l0 : Nat → List (S51) → Int → Int → List (S51) → Int → Option ((List (S51)))
 | 0, _, _, _, _, _ => none
 | k + 1, x0, x1, x2, x7, x8 => if x8 < (x0.length : Int) then (if 0 ≤ x8 then (if ((J51 x0 x8).f0) ≥ x1 then (if ((J51 x0 x8).f0) ≤ x2 then (if x7.length < 8796093022208 then (larchref06_Inside.l0 k x0 x1 x2 (x7 ++ [(⟨(J51 x0 x8).f0, (J51 x0 x8).f1⟩ : S51)]) (wrap64 (x8 + 1))) else (none)) else (larchref06_Inside.l0 k x0 x1 x2 x7 (wrap64 (x8 + 1)))) else (larchref06_Inside.l0 k x0 x1 x2 x7 (wrap64 (x8 + 1)))) else (none)) else (some x7)
def larchref06_Inside.f (k : Nat) (l0 : List (S51)) (a1 : Int) (a2 : Int) : Option ((List (S51))) := larchref06_Inside.l0 k l0 a1 a2 ([] : List (S51)) 0
set_option maxHeartbeats 8000000 in
set_option maxRecDepth 100000 in
theorem larchref06_Inside.calls (k : Nat) (A0 : Option Addr) (c0 : Nat) (l0 : List (S51)) (a1 : Int) (a2 : Int) (r : List (S51)) (w : World) (hr0 : Kd.C k51 w A0 l0.length l0) (hc0 : l0.length ≤ c0) (h : larchref06_Inside.f k l0 a1 a2 = some r) :
  Calls Try.prog 44 #[.slice A0 l0.length c0, .int .i64 a1, .int .i64 a2] w fun e w' => ∃ v0_ : Value, e = .returned (v0_) ∧ Kd.R k51 51 w' w.heap.size (fun _ => True) v0_ r ∧ Below w.heap.size w w' := by
 have hu51 := Try.underlying51
 have HR0 := asd hr0
 have HC0 := asd hc0
 clear hr0 hc0
 have HB := asd (Below.refl w.heap.size w)
 have H : (larchref06_Inside.l0 k l0 a1 a2 ([] : List (S51)) 0) = some r := h
 clear h
 have H' := asd H
 clear H
 go_enter Try.func44, Try.ntmps44
 go_wp2
 go_loopg [7, 8] k (fun kq v7 v8 w' => ∃ (x7_1 : List (S51)) (x8_1 : Int), v8 = .int .i64 x8_1 ∧ Aside0 (larchref06_Inside.l0 kq l0 a1 a2 x7_1 x8_1 = some r) ∧ Aside0 (kq ≤ k) ∧ Aside0 (Kd.R k51 51 w' w.heap.size (fun _ => True) v7 x7_1) ∧ Aside0 (Below w.heap.size w w'))
 case atStart => exact ⟨(([] : List (S51))), (0), rs, H', ⟨Nat.le_refl _⟩, ⟨by first | exact Kd.R_nil _ _ _ _ _ | exact Kd.N_nil _ _ _ _ _ | exact Kd.V_nil _ _ _ _ _ | exact Kd.Q_nil _ _ _ _ _ | exact Kd.S_nil _ _ _ _ _⟩, ⟨skB HB.out⟩⟩
 case round =>
  clear H'
  try clear p2
  obtain ⟨x7_1, x8_1, rfl, HA, HK1, HO_7, HB⟩ := hrel
  cases gk with
  | zero => exact absurd HA.out (by simp [larchref06_Inside.l0])
  | succ k1 =>
   have H := HA.out
   clear HA
   simp only [larchref06_Inside.l0] at H
   by_cases c4 : x8_1 < (l0.length : Int)
   ·
    rw [if_pos c4] at H
    have c4b0 : decide (x8_1 < (l0.length : Int)) = true := decide_eq_true c4
    clear c4
    by_cases c5 : 0 ≤ x8_1
    ·
     rw [if_pos c5] at H
     have c5b0 : decide (0 ≤ x8_1) = true := decide_eq_true c5
     clear c5
     by_cases c6 : ((J51 l0 x8_1).f0) ≥ a1
     ·
      rw [if_pos c6] at H
      have c6b0 : decide (a1 ≤ ((J51 l0 x8_1).f0)) = true := decide_eq_true c6
      clear c6
      by_cases c7 : ((J51 l0 x8_1).f0) ≤ a2
      ·
       rw [if_pos c7] at H
       have c7b0 : decide (((J51 l0 x8_1).f0) ≤ a2) = true := decide_eq_true c7
       clear c7
       by_cases c8 : x7_1.length < 8796093022208
       ·
        rw [if_pos c8] at H
        have LMc8 := asd c8
        clear c8
        obtain ⟨y220, hy220⟩ : ∃ y_ : List (S51), y_ = (x7_1 ++ [(⟨(J51 l0 x8_1).f0, (J51 l0 x8_1).f1⟩ : S51)]) := ⟨_, rfl⟩
        replace H : (larchref06_Inside.l0 k1 l0 a1 a2 y220 (wrap64 (x8_1 + 1))) = some r := by first | (rw [hy220]; with_reducible exact H) | (have H2_ := (Option.bind_some _ _).symm.trans H; rw [hy220]; with_reducible exact H2_) | (have H2_ := (Option.bind_some _ _).symm.trans H; with_reducible exact H2_) | with_reducible exact H | (rw [hy220]; exact H) | exact H
        have Ny220 := asd hy220
        clear hy220
        have H' := asd H
        clear H
        have p217 : 0 ≤ (x8_1 : Int) := dt
        have q217 : x8_1 < (l0.length : Int) := dt
        obtain ⟨ad217, e217, hx217_0, hx217_1⟩ := at_T51 HR0.out x8_1 p217 q217
        cases e217
        replace hx217_0 := skc HB.out hx217_0
        replace hx217_1 := skc HB.out hx217_1
        replace p217 := eq_true p217
        replace q217 := eq_true q217
        have p218 : 0 ≤ (x8_1 : Int) := dt
        have q218 : x8_1 < (l0.length : Int) := dt
        obtain ⟨ad218, e218, hx218_0, hx218_1⟩ := at_T51 HR0.out x8_1 p218 q218
        obtain rfl : ad217 = ad218 := (by injection e218)
        replace hx218_0 := skc HB.out hx218_0
        replace hx218_1 := skc HB.out hx218_1
        replace p218 := eq_true p218
        replace q218 := eq_true q218
        have p219 : 0 ≤ (x8_1 : Int) := dt
        have q219 : x8_1 < (l0.length : Int) := dt
        obtain ⟨ad219, e219, hx219_0, hx219_1⟩ := at_T51 HR0.out x8_1 p219 q219
        obtain rfl : ad217 = ad219 := (by injection e219)
        replace hx219_0 := skc HB.out hx219_0
        replace hx219_1 := skc HB.out hx219_1
        replace p219 := eq_true p219
        replace q219 := eq_true q219
        go_wp2_with (first | ((with_reducible refine gate_builtin (b := .append) (xs := #[.tmp 31, .tmp 36]) rfl ?_); at_builtin; refine Kd.R_append k51 (w0 := w) w.heap.size rfl (.tmp 31) (.tmp 36) 22 51 (.agg #[(.int .i64 0), (.int .i64 0)]) 16 rfl Try.underlying22 info51 rfl (by decide) (by omega) u7 x7_1 (⟨(J51 l0 x8_1).f0, (J51 l0 x8_1).f1⟩ : S51) [.int .i64 ((J51 l0 x8_1).f0), .int .i64 ((J51 l0 x8_1).f1)] (fun _ => True) (fun _ => False) rfl rfl ?aP (fun _ hk => hk.elim) ?aF ?aO ?aB ?aS ?aL ?_; (case aP => exact k51_mkM _ _ _ (⟨(J51 l0 x8_1).f0, (J51 l0 x8_1).f1⟩ : S51)); (case aB => exact (skB HB.out)); (case aF => exact (fun _ _ => trivial)); (case aO => exact (skR HO_7.out)); (case aS => exact (below_size (skB HB.out))); (case aL => have := LMc8.out; omega); intro v221 w9 ho hb hg hat; rw [← Ny220.out] at ho; have n0_ := asd (hb); have n1_ := asd (ho); clear HB; clear HO_7; have HB := n0_; have HO222 := n1_; clear n0_ n1_; clear ho hb hg hat))
        go_roundg k1
        case measure => have := HK1.out; omega
        case rel => exact ⟨(y220), (wrap64 (x8_1 + 1)), rs, H', ⟨by have := HK1.out; omega⟩, ⟨skR HO222.out⟩, ⟨skB HB.out⟩⟩
       ·
        rw [if_neg c8] at H
        exact absurd H (by simp)
      ·
       rw [if_neg c7] at H
       have c7b0 : decide (((J51 l0 x8_1).f0) ≤ a2) = false := decide_eq_false c7
       clear c7
       have H' := asd H
       clear H
       have p217 : 0 ≤ (x8_1 : Int) := dt
       have q217 : x8_1 < (l0.length : Int) := dt
       obtain ⟨ad217, e217, hx217_0, hx217_1⟩ := at_T51 HR0.out x8_1 p217 q217
       cases e217
       replace hx217_0 := skc HB.out hx217_0
       replace hx217_1 := skc HB.out hx217_1
       replace p217 := eq_true p217
       replace q217 := eq_true q217
       have p218 : 0 ≤ (x8_1 : Int) := dt
       have q218 : x8_1 < (l0.length : Int) := dt
       obtain ⟨ad218, e218, hx218_0, hx218_1⟩ := at_T51 HR0.out x8_1 p218 q218
       obtain rfl : ad217 = ad218 := (by injection e218)
       replace hx218_0 := skc HB.out hx218_0
       replace hx218_1 := skc HB.out hx218_1
       replace p218 := eq_true p218
       replace q218 := eq_true q218
       go_wp2
       go_roundg k1
       case measure => have := HK1.out; omega
       case rel => exact ⟨(x7_1), (wrap64 (x8_1 + 1)), rs, H', ⟨by have := HK1.out; omega⟩, ⟨skR HO_7.out⟩, ⟨skB HB.out⟩⟩
     ·
      rw [if_neg c6] at H
      have c6b0 : decide (a1 ≤ ((J51 l0 x8_1).f0)) = false := decide_eq_false c6
      clear c6
      have H' := asd H
      clear H
      have p217 : 0 ≤ (x8_1 : Int) := dt
      have q217 : x8_1 < (l0.length : Int) := dt
      obtain ⟨ad217, e217, hx217_0, hx217_1⟩ := at_T51 HR0.out x8_1 p217 q217
      cases e217
      replace hx217_0 := skc HB.out hx217_0
      replace hx217_1 := skc HB.out hx217_1
      replace p217 := eq_true p217
      replace q217 := eq_true q217
      go_wp2
      go_roundg k1
      case measure => have := HK1.out; omega
      case rel => exact ⟨(x7_1), (wrap64 (x8_1 + 1)), rs, H', ⟨by have := HK1.out; omega⟩, ⟨skR HO_7.out⟩, ⟨skB HB.out⟩⟩
    ·
     rw [if_neg c5] at H
     exact absurd H (by simp)
   ·
    rw [if_neg c4] at H
    have c4b0 : decide (x8_1 < (l0.length : Int)) = false := decide_eq_false c4
    clear c4
    obtain rfl := Option.some.inj H
    go_wp2
    go_ret
    exact ⟨_, re, skR HO_7.out, skB HB.out⟩
end Go.Proofs.Ytanlnfcjdjamaaa.P
/- F31 -/
namespace Go.Proofs.Ytanlnfcjdjamaaa.P
open Go.RowKit Go.Proofs.YtanlnfcjdjamaaaW.PrintWords Go.Proofs.YtanlnfcjdjamaaaW.PrintLast Go.Proofs.YtanlnfcjdjamaaaW.PrintMore
attribute [local go_sem] max2_int min2_int max_two min_two max_three min_three max_four min_four   -- for this text's walks alone
set_option linter.unusedVariables false
set_option linter.unusedSimpArgs false
mutual
def larchref06_with.l0 : Nat → List (S51) → Int → Int → List (S51) → Bool → Int → Option ((List (S51)))
 | 0, _, _, _, _, _, _ => none
 | k + 1, x0, x1, x2, x9, x10, x11 => if x11 < (x0.length : Int) then (if x10 = true then (larchref06_with.j1 k x0 x1 x2 x9 x10 x11 false) else (if 0 ≤ x11 then (larchref06_with.j1 k x0 x1 x2 x9 x10 x11 (decide (((J51 x0 x11).f0) ≥ x1))) else (none))) else (if x10 = true then (some x9) else (if x9.length < 8796093022208 then (some (x9 ++ [(⟨x1, x2⟩ : S51)])) else (none)))
def larchref06_with.j1 : Nat → List (S51) → Int → Int → List (S51) → Bool → Int → Bool → Option ((List (S51)))
 | 0, _, _, _, _, _, _, _ => none
 | k + 1, x0, x1, x2, x9, x10, x11, x29 => if x29 = true then (if x9.length < 8796093022208 then ((some (x9 ++ [(⟨x1, x2⟩ : S51)] : List (S51))).bind fun y227 => (if 0 ≤ x11 then (if x11 < (x0.length : Int) then (if ((J51 x0 x11).f0) = x1 then (larchref06_with.l0 k x0 x1 x2 y227 true (wrap64 (x11 + 1))) else (if y227.length < 8796093022208 then (larchref06_with.l0 k x0 x1 x2 (y227 ++ [(⟨(J51 x0 x11).f0, (J51 x0 x11).f1⟩ : S51)]) true (wrap64 (x11 + 1))) else (none))) else (none)) else (none))) else (none)) else (if 0 ≤ x11 then (if x11 < (x0.length : Int) then (if ((J51 x0 x11).f0) = x1 then (larchref06_with.l0 k x0 x1 x2 x9 x10 (wrap64 (x11 + 1))) else (if x9.length < 8796093022208 then (larchref06_with.l0 k x0 x1 x2 (x9 ++ [(⟨(J51 x0 x11).f0, (J51 x0 x11).f1⟩ : S51)]) x10 (wrap64 (x11 + 1))) else (none))) else (none)) else (none))
end
def larchref06_with.f (k : Nat) (l0 : List (S51)) (a1 : Int) (a2 : Int) (a3 : Bool) : Option ((List (S51))) := larchref06_with.l0 k l0 a1 a2 ([] : List (S51)) a3 0
set_option maxHeartbeats 8000000 in
set_option maxRecDepth 100000 in
theorem larchref06_with.calls (k : Nat) (A0 : Option Addr) (c0 : Nat) (l0 : List (S51)) (a1 : Int) (a2 : Int) (a3 : Bool) (r : List (S51)) (w : World) (hr0 : Kd.C k51 w A0 l0.length l0) (hc0 : l0.length ≤ c0) (h : larchref06_with.f k l0 a1 a2 a3 = some r) :
  Calls Try.prog 45 #[.slice A0 l0.length c0, .int .i64 a1, .int .i64 a2, .bool a3] w fun e w' => ∃ v0_ : Value, e = .returned (v0_) ∧ Kd.R k51 51 w' w.heap.size (fun _ => True) v0_ r ∧ Below w.heap.size w w' := by
 have hu51 := Try.underlying51
 have HR0 := asd hr0
 have HC0 := asd hc0
 clear hr0 hc0
 have HB := asd (Below.refl w.heap.size w)
 have H : (larchref06_with.l0 k l0 a1 a2 ([] : List (S51)) a3 0) = some r := h
 clear h
 have H' := asd H
 clear H
 go_enter Try.func45, Try.ntmps45
 go_wp2
 go_loopg [9, 10, 11] k (fun kq v9 v10 v11 w' => ∃ (x9_1 : List (S51)) (x10_1 : Bool) (x11_1 : Int), v10 = .bool x10_1 ∧ v11 = .int .i64 x11_1 ∧ Aside0 (larchref06_with.l0 kq l0 a1 a2 x9_1 x10_1 x11_1 = some r) ∧ Aside0 (kq ≤ k) ∧ Aside0 (Kd.R k51 51 w' w.heap.size (fun _ => True) v9 x9_1) ∧ Aside0 (Below w.heap.size w w'))
 case atStart => exact ⟨(([] : List (S51))), (a3), (0), rs, rs, H', ⟨Nat.le_refl _⟩, ⟨by first | exact Kd.R_nil _ _ _ _ _ | exact Kd.N_nil _ _ _ _ _ | exact Kd.V_nil _ _ _ _ _ | exact Kd.Q_nil _ _ _ _ _ | exact Kd.S_nil _ _ _ _ _⟩, ⟨skB HB.out⟩⟩
 case round =>
  clear H'
  try clear p2
  try clear c4
  obtain ⟨x9_1, x10_1, x11_1, rfl, rfl, HA, HK1, HO_9, HB⟩ := hrel
  cases gk with
  | zero => exact absurd HA.out (by simp [larchref06_with.l0])
  | succ k1 =>
   have H := HA.out
   clear HA
   simp only [larchref06_with.l0] at H
   by_cases c5 : x11_1 < (l0.length : Int)
   ·
    rw [if_pos c5] at H
    have c5b0 : decide (x11_1 < (l0.length : Int)) = true := decide_eq_true c5
    clear c5
    have HC6 := asd H
    clear H
    go_upto_region 6 with (fail)
    go_cut [29] (fun v29 wc => ∃ (kq : Nat) (x29_5 : Bool), v29 = .bool x29_5 ∧ Aside0 (larchref06_with.j1 kq l0 a1 a2 x9_1 x10_1 x11_1 x29_5 = some r) ∧ Aside0 (kq ≤ k1) ∧ Aside0 (Kd.R k51 51 wc w.heap.size (fun _ => True) u9 x9_1) ∧ Aside0 (Below w.heap.size w wc))
    case first =>
     have H := HC6.out
     clear HC6
     by_cases c7 : x10_1 = true
     ·
      subst c7
      have H1 : (larchref06_with.j1 k1 l0 a1 a2 x9_1 true x11_1 false) = some r := by rw [if_pos rfl] at H; exact H
      clear H
      have H := H1
      clear H1
      have H' := asd H
      clear H
      go_wp2
      go_meet
      case rel => exact ⟨_, (false), rs, H', ⟨by have := HK1.out; first | omega | exact Nat.le_refl _⟩, ⟨skR HO_9.out⟩, ⟨skB HB.out⟩⟩
     ·
      replace c7 := Bool.eq_false_iff.mpr c7
      subst c7
      have H1 : (if 0 ≤ x11_1 then (larchref06_with.j1 k1 l0 a1 a2 x9_1 false x11_1 (decide (((J51 l0 x11_1).f0) ≥ a1))) else (none)) = some r := by rw [if_neg (show ¬ (false = true) by decide)] at H; exact H
      clear H
      have H := H1
      clear H1
      by_cases c8 : 0 ≤ x11_1
      ·
       rw [if_pos c8] at H
       have c8b0 : decide (0 ≤ x11_1) = true := decide_eq_true c8
       clear c8
       (first | rw [c8b0] | (simp only [i64_w, i32_w]; rw [c8b0]) | skip)
       have H' := asd H
       clear H
       have p226 : 0 ≤ (x11_1 : Int) := dt
       have q226 : x11_1 < (l0.length : Int) := dt
       obtain ⟨ad226, e226, hx226_0, hx226_1⟩ := at_T51 HR0.out x11_1 p226 q226
       cases e226
       replace hx226_0 := skc HB.out hx226_0
       replace hx226_1 := skc HB.out hx226_1
       replace p226 := eq_true p226
       replace q226 := eq_true q226
       go_wp2
       go_meet
       case rel => exact ⟨_, (decide (((J51 l0 x11_1).f0) ≥ a1)), rs, H', ⟨by have := HK1.out; first | omega | exact Nat.le_refl _⟩, ⟨skR HO_9.out⟩, ⟨skB HB.out⟩⟩
      ·
       rw [if_neg c8] at H
       exact absurd H (by simp)
    case rest =>
     clear HC6
     try clear p2
     try clear q2
     try clear hx2
     try clear c4
     try clear c5
     try clear c5b0
     try clear c7
     try clear c8
     try clear c8b0
     try clear hx226_0
     try clear hx226_1
     try clear p2
     try clear p226
     try clear q226
     obtain ⟨kq, x29_5, rfl, HA, HJ5, HO_9, HB⟩ := hcut
     cases kq with
     | zero => exact absurd HA.out (by simp [larchref06_with.j1])
     | succ kj5 =>
      have H := HA.out
      clear HA
      simp only [larchref06_with.j1] at H
      by_cases c9 : x29_5 = true
      ·
       subst c9
       have H1 : (if x9_1.length < 8796093022208 then ((some (x9_1 ++ [(⟨a1, a2⟩ : S51)] : List (S51))).bind fun y227 => (if 0 ≤ x11_1 then (if x11_1 < (l0.length : Int) then (if ((J51 l0 x11_1).f0) = a1 then (larchref06_with.l0 kj5 l0 a1 a2 y227 true (wrap64 (x11_1 + 1))) else (if y227.length < 8796093022208 then (larchref06_with.l0 kj5 l0 a1 a2 (y227 ++ [(⟨(J51 l0 x11_1).f0, (J51 l0 x11_1).f1⟩ : S51)]) true (wrap64 (x11_1 + 1))) else (none))) else (none)) else (none))) else (none)) = some r := by rw [if_pos rfl] at H; exact H
       clear H
       have H := H1
       clear H1
       by_cases c10 : x9_1.length < 8796093022208
       ·
        rw [if_pos c10] at H
        have LMc10 := asd c10
        clear c10
        obtain ⟨y227, hy227⟩ : ∃ y_ : List (S51), y_ = (x9_1 ++ [(⟨a1, a2⟩ : S51)]) := ⟨_, rfl⟩
        replace H : (if 0 ≤ x11_1 then (if x11_1 < (l0.length : Int) then (if ((J51 l0 x11_1).f0) = a1 then (larchref06_with.l0 kj5 l0 a1 a2 y227 true (wrap64 (x11_1 + 1))) else (if y227.length < 8796093022208 then (larchref06_with.l0 kj5 l0 a1 a2 (y227 ++ [(⟨(J51 l0 x11_1).f0, (J51 l0 x11_1).f1⟩ : S51)]) true (wrap64 (x11_1 + 1))) else (none))) else (none)) else (none)) = some r := by first | (rw [hy227]; with_reducible exact H) | (have H2_ := (Option.bind_some _ _).symm.trans H; rw [hy227]; with_reducible exact H2_) | (have H2_ := (Option.bind_some _ _).symm.trans H; with_reducible exact H2_) | with_reducible exact H | (rw [hy227]; exact H) | exact H
        have Ny227 := asd hy227
        clear hy227
        by_cases c11 : 0 ≤ x11_1
        ·
         rw [if_pos c11] at H
         have c11b0 : decide (0 ≤ x11_1) = true := decide_eq_true c11
         clear c11
         by_cases c12 : x11_1 < (l0.length : Int)
         ·
          rw [if_pos c12] at H
          have c12b0 : decide (x11_1 < (l0.length : Int)) = true := decide_eq_true c12
          clear c12
          by_cases c13 : ((J51 l0 x11_1).f0) = a1
          ·
           rw [if_pos c13] at H
           have c13b0 : (((J51 l0 x11_1).f0) == a1) = true := beq_iff_eq.mpr c13
           have c13b1 : (((J51 l0 x11_1).f0) != a1) = false := bne_eq_false_iff_eq.mpr c13
           clear c13
           have H' := asd H
           clear H
           go_wp2_with (first | ((with_reducible refine gate_builtin (b := .append) (xs := #[.tmp 30, .tmp 34]) rfl ?_); at_builtin; refine Kd.R_append k51 (w0 := w) w.heap.size rfl (.tmp 30) (.tmp 34) 22 51 (.agg #[(.int .i64 0), (.int .i64 0)]) 16 rfl Try.underlying22 info51 rfl (by decide) (by omega) u9 x9_1 (⟨a1, a2⟩ : S51) [.int .i64 a1, .int .i64 a2] (fun _ => True) (fun _ => False) rfl rfl ?aP (fun _ hk => hk.elim) ?aF ?aO ?aB ?aS ?aL ?_; (case aP => exact k51_mkM _ _ _ (⟨a1, a2⟩ : S51)); (case aB => exact (skB HB.out)); (case aF => exact (fun _ _ => trivial)); (case aO => exact (skR HO_9.out)); (case aS => exact (below_size (skB HB.out))); (case aL => have := LMc10.out; omega); intro v228 w14 ho hb hg hat; rw [← Ny227.out] at ho; have n0_ := asd (hb); have n1_ := asd (ho); clear HB; clear HO_9; have HB := n0_; have HO229 := n1_; clear n0_ n1_; clear ho hb hg hat; have p230 : 0 ≤ (x11_1 : Int) := dt; have q230 : x11_1 < (l0.length : Int) := dt; obtain ⟨ad230, e230, hx230_0, hx230_1⟩ := at_T51 HR0.out x11_1 p230 q230; cases e230; replace hx230_0 := skc HB.out hx230_0; replace hx230_1 := skc HB.out hx230_1; replace p230 := eq_true p230; replace q230 := eq_true q230))
           go_roundg kj5
           case measure => have := HK1.out; have := HJ5.out; omega
           case rel => exact ⟨(y227), (true), (wrap64 (x11_1 + 1)), rs, rs, H', ⟨by have := HK1.out; have := HJ5.out; omega⟩, ⟨skR HO229.out⟩, ⟨skB HB.out⟩⟩
          ·
           rw [if_neg c13] at H
           have c13b0 : (((J51 l0 x11_1).f0) == a1) = false := beq_eq_false_iff_ne.mpr c13
           have c13b1 : (((J51 l0 x11_1).f0) != a1) = true := bne_iff_ne.mpr c13
           by_cases c15 : y227.length < 8796093022208
           ·
            rw [if_pos c15] at H
            have LMc15 := asd c15
            clear c15
            obtain ⟨y232, hy232⟩ : ∃ y_ : List (S51), y_ = (y227 ++ [(⟨(J51 l0 x11_1).f0, (J51 l0 x11_1).f1⟩ : S51)]) := ⟨_, rfl⟩
            replace H : (larchref06_with.l0 kj5 l0 a1 a2 y232 true (wrap64 (x11_1 + 1))) = some r := by first | (rw [hy232]; with_reducible exact H) | (have H2_ := (Option.bind_some _ _).symm.trans H; rw [hy232]; with_reducible exact H2_) | (have H2_ := (Option.bind_some _ _).symm.trans H; with_reducible exact H2_) | with_reducible exact H | (rw [hy232]; exact H) | exact H
            have Ny232 := asd hy232
            clear hy232
            have H' := asd H
            clear H
            go_wp2_with (first | ((with_reducible refine gate_builtin (b := .append) (xs := #[.tmp 30, .tmp 34]) rfl ?_); at_builtin; refine Kd.R_append k51 (w0 := w) w.heap.size rfl (.tmp 30) (.tmp 34) 22 51 (.agg #[(.int .i64 0), (.int .i64 0)]) 16 rfl Try.underlying22 info51 rfl (by decide) (by omega) u9 x9_1 (⟨a1, a2⟩ : S51) [.int .i64 a1, .int .i64 a2] (fun _ => True) (fun _ => False) rfl rfl ?aP (fun _ hk => hk.elim) ?aF ?aO ?aB ?aS ?aL ?_; (case aP => exact k51_mkM _ _ _ (⟨a1, a2⟩ : S51)); (case aB => exact (skB HB.out)); (case aF => exact (fun _ _ => trivial)); (case aO => exact (skR HO_9.out)); (case aS => exact (below_size (skB HB.out))); (case aL => have := LMc10.out; omega); intro v228 w16 ho hb hg hat; rw [← Ny227.out] at ho; have n0_ := asd (hb); have n1_ := asd (ho); clear HB; clear HO_9; have HB := n0_; have HO229 := n1_; clear n0_ n1_; clear ho hb hg hat; have p230 : 0 ≤ (x11_1 : Int) := dt; have q230 : x11_1 < (l0.length : Int) := dt; obtain ⟨ad230, e230, hx230_0, hx230_1⟩ := at_T51 HR0.out x11_1 p230 q230; cases e230; replace hx230_0 := skc HB.out hx230_0; replace hx230_1 := skc HB.out hx230_1; replace p230 := eq_true p230; replace q230 := eq_true q230; have p231 : 0 ≤ (x11_1 : Int) := dt; have q231 : x11_1 < (l0.length : Int) := dt; obtain ⟨ad231, e231, hx231_0, hx231_1⟩ := at_T51 HR0.out x11_1 p231 q231; obtain rfl : ad230 = ad231 := (by injection e231); replace hx231_0 := skc HB.out hx231_0; replace hx231_1 := skc HB.out hx231_1; replace p231 := eq_true p231; replace q231 := eq_true q231) | ((with_reducible refine gate_builtin (b := .append) (xs := #[.tmp 43, .tmp 48]) rfl ?_); at_builtin; refine Kd.R_append k51 (w0 := w) w.heap.size rfl (.tmp 43) (.tmp 48) 22 51 (.agg #[(.int .i64 0), (.int .i64 0)]) 16 rfl Try.underlying22 info51 rfl (by decide) (by omega) v228 y227 (⟨(J51 l0 x11_1).f0, (J51 l0 x11_1).f1⟩ : S51) [.int .i64 ((J51 l0 x11_1).f0), .int .i64 ((J51 l0 x11_1).f1)] (fun _ => True) (fun _ => False) rfl rfl ?aP (fun _ hk => hk.elim) ?aF ?aO ?aB ?aS ?aL ?_; (case aP => exact k51_mkM _ _ _ (⟨(J51 l0 x11_1).f0, (J51 l0 x11_1).f1⟩ : S51)); (case aB => exact (skB HB.out)); (case aF => exact (fun _ _ => trivial)); (case aO => exact (skR HO229.out)); (case aS => exact (below_size (skB HB.out))); (case aL => have := LMc15.out; omega); intro v233 w17 ho hb hg hat; rw [← Ny232.out] at ho; have n0_ := asd (hb); have n1_ := asd (ho); clear HB; clear HO229; have HB := n0_; have HO234 := n1_; clear n0_ n1_; clear ho hb hg hat))
            go_roundg kj5
            case measure => have := HK1.out; have := HJ5.out; omega
            case rel => exact ⟨(y232), (true), (wrap64 (x11_1 + 1)), rs, rs, H', ⟨by have := HK1.out; have := HJ5.out; omega⟩, ⟨skR HO234.out⟩, ⟨skB HB.out⟩⟩
           ·
            rw [if_neg c15] at H
            exact absurd H (by simp)
         ·
          rw [if_neg c12] at H
          exact absurd H (by simp)
        ·
         rw [if_neg c11] at H
         exact absurd H (by simp)
       ·
        rw [if_neg c10] at H
        exact absurd H (by simp)
      ·
       replace c9 := Bool.eq_false_iff.mpr c9
       subst c9
       have H1 : (if 0 ≤ x11_1 then (if x11_1 < (l0.length : Int) then (if ((J51 l0 x11_1).f0) = a1 then (larchref06_with.l0 kj5 l0 a1 a2 x9_1 x10_1 (wrap64 (x11_1 + 1))) else (if x9_1.length < 8796093022208 then (larchref06_with.l0 kj5 l0 a1 a2 (x9_1 ++ [(⟨(J51 l0 x11_1).f0, (J51 l0 x11_1).f1⟩ : S51)]) x10_1 (wrap64 (x11_1 + 1))) else (none))) else (none)) else (none)) = some r := by rw [if_neg (show ¬ (false = true) by decide)] at H; exact H
       clear H
       have H := H1
       clear H1
       by_cases c18 : 0 ≤ x11_1
       ·
        rw [if_pos c18] at H
        have c18b0 : decide (0 ≤ x11_1) = true := decide_eq_true c18
        clear c18
        by_cases c19 : x11_1 < (l0.length : Int)
        ·
         rw [if_pos c19] at H
         have c19b0 : decide (x11_1 < (l0.length : Int)) = true := decide_eq_true c19
         clear c19
         by_cases c20 : ((J51 l0 x11_1).f0) = a1
         ·
          rw [if_pos c20] at H
          have c20b0 : (((J51 l0 x11_1).f0) == a1) = true := beq_iff_eq.mpr c20
          have c20b1 : (((J51 l0 x11_1).f0) != a1) = false := bne_eq_false_iff_eq.mpr c20
          clear c20
          have H' := asd H
          clear H
          have p235 : 0 ≤ (x11_1 : Int) := dt
          have q235 : x11_1 < (l0.length : Int) := dt
          obtain ⟨ad235, e235, hx235_0, hx235_1⟩ := at_T51 HR0.out x11_1 p235 q235
          cases e235
          replace hx235_0 := skc HB.out hx235_0
          replace hx235_1 := skc HB.out hx235_1
          replace p235 := eq_true p235
          replace q235 := eq_true q235
          go_wp2
          go_roundg kj5
          case measure => have := HK1.out; have := HJ5.out; omega
          case rel => exact ⟨(x9_1), (x10_1), (wrap64 (x11_1 + 1)), rs, rs, H', ⟨by have := HK1.out; have := HJ5.out; omega⟩, ⟨skR HO_9.out⟩, ⟨skB HB.out⟩⟩
         ·
          rw [if_neg c20] at H
          have c20b0 : (((J51 l0 x11_1).f0) == a1) = false := beq_eq_false_iff_ne.mpr c20
          have c20b1 : (((J51 l0 x11_1).f0) != a1) = true := bne_iff_ne.mpr c20
          by_cases c21 : x9_1.length < 8796093022208
          ·
           rw [if_pos c21] at H
           have LMc21 := asd c21
           clear c21
           obtain ⟨y237, hy237⟩ : ∃ y_ : List (S51), y_ = (x9_1 ++ [(⟨(J51 l0 x11_1).f0, (J51 l0 x11_1).f1⟩ : S51)]) := ⟨_, rfl⟩
           replace H : (larchref06_with.l0 kj5 l0 a1 a2 y237 x10_1 (wrap64 (x11_1 + 1))) = some r := by first | (rw [hy237]; with_reducible exact H) | (have H2_ := (Option.bind_some _ _).symm.trans H; rw [hy237]; with_reducible exact H2_) | (have H2_ := (Option.bind_some _ _).symm.trans H; with_reducible exact H2_) | with_reducible exact H | (rw [hy237]; exact H) | exact H
           have Ny237 := asd hy237
           clear hy237
           have H' := asd H
           clear H
           have p235 : 0 ≤ (x11_1 : Int) := dt
           have q235 : x11_1 < (l0.length : Int) := dt
           obtain ⟨ad235, e235, hx235_0, hx235_1⟩ := at_T51 HR0.out x11_1 p235 q235
           cases e235
           replace hx235_0 := skc HB.out hx235_0
           replace hx235_1 := skc HB.out hx235_1
           replace p235 := eq_true p235
           replace q235 := eq_true q235
           have p236 : 0 ≤ (x11_1 : Int) := dt
           have q236 : x11_1 < (l0.length : Int) := dt
           obtain ⟨ad236, e236, hx236_0, hx236_1⟩ := at_T51 HR0.out x11_1 p236 q236
           obtain rfl : ad235 = ad236 := (by injection e236)
           replace hx236_0 := skc HB.out hx236_0
           replace hx236_1 := skc HB.out hx236_1
           replace p236 := eq_true p236
           replace q236 := eq_true q236
           go_wp2_with (first | ((with_reducible refine gate_builtin (b := .append) (xs := #[.tmp 43, .tmp 48]) rfl ?_); at_builtin; refine Kd.R_append k51 (w0 := w) w.heap.size rfl (.tmp 43) (.tmp 48) 22 51 (.agg #[(.int .i64 0), (.int .i64 0)]) 16 rfl Try.underlying22 info51 rfl (by decide) (by omega) u9 x9_1 (⟨(J51 l0 x11_1).f0, (J51 l0 x11_1).f1⟩ : S51) [.int .i64 ((J51 l0 x11_1).f0), .int .i64 ((J51 l0 x11_1).f1)] (fun _ => True) (fun _ => False) rfl rfl ?aP (fun _ hk => hk.elim) ?aF ?aO ?aB ?aS ?aL ?_; (case aP => exact k51_mkM _ _ _ (⟨(J51 l0 x11_1).f0, (J51 l0 x11_1).f1⟩ : S51)); (case aB => exact (skB HB.out)); (case aF => exact (fun _ _ => trivial)); (case aO => exact (skR HO_9.out)); (case aS => exact (below_size (skB HB.out))); (case aL => have := LMc21.out; omega); intro v238 w22 ho hb hg hat; rw [← Ny237.out] at ho; have n0_ := asd (hb); have n1_ := asd (ho); clear HB; clear HO_9; have HB := n0_; have HO239 := n1_; clear n0_ n1_; clear ho hb hg hat))
           go_roundg kj5
           case measure => have := HK1.out; have := HJ5.out; omega
           case rel => exact ⟨(y237), (x10_1), (wrap64 (x11_1 + 1)), rs, rs, H', ⟨by have := HK1.out; have := HJ5.out; omega⟩, ⟨skR HO239.out⟩, ⟨skB HB.out⟩⟩
          ·
           rw [if_neg c21] at H
           exact absurd H (by simp)
        ·
         rw [if_neg c19] at H
         exact absurd H (by simp)
       ·
        rw [if_neg c18] at H
        exact absurd H (by simp)
   ·
    rw [if_neg c5] at H
    have c5b0 : decide (x11_1 < (l0.length : Int)) = false := decide_eq_false c5
    clear c5
    by_cases c23 : x10_1 = true
    ·
     subst c23
     have H1 : (some x9_1) = some r := by rw [if_pos rfl] at H; exact H
     clear H
     have H := H1
     clear H1
     obtain rfl := Option.some.inj H
     go_wp2
     go_ret
     exact ⟨_, re, skR HO_9.out, skB HB.out⟩
    ·
     replace c23 := Bool.eq_false_iff.mpr c23
     subst c23
     have H1 : (if x9_1.length < 8796093022208 then (some (x9_1 ++ [(⟨a1, a2⟩ : S51)])) else (none)) = some r := by rw [if_neg (show ¬ (false = true) by decide)] at H; exact H
     clear H
     have H := H1
     clear H1
     by_cases c24 : x9_1.length < 8796093022208
     ·
      rw [if_pos c24] at H
      have LMc24 := asd c24
      clear c24
      obtain ⟨y223, hy223⟩ : ∃ y_ : List (S51), y_ = (x9_1 ++ [(⟨a1, a2⟩ : S51)]) := ⟨_, rfl⟩
      replace H : (some y223) = some r := by first | (rw [hy223]; with_reducible exact H) | (have H2_ := (Option.bind_some _ _).symm.trans H; rw [hy223]; with_reducible exact H2_) | (have H2_ := (Option.bind_some _ _).symm.trans H; with_reducible exact H2_) | with_reducible exact H | (rw [hy223]; exact H) | exact H
      have Ny223 := asd hy223
      clear hy223
      obtain rfl := Option.some.inj H
      go_wp2_with (first | ((with_reducible refine gate_builtin (b := .append) (xs := #[.tmp 52, .tmp 56]) rfl ?_); at_builtin; refine Kd.R_append k51 (w0 := w) w.heap.size rfl (.tmp 52) (.tmp 56) 22 51 (.agg #[(.int .i64 0), (.int .i64 0)]) 16 rfl Try.underlying22 info51 rfl (by decide) (by omega) u9 x9_1 (⟨a1, a2⟩ : S51) [.int .i64 a1, .int .i64 a2] (fun _ => True) (fun _ => False) rfl rfl ?aP (fun _ hk => hk.elim) ?aF ?aO ?aB ?aS ?aL ?_; (case aP => exact k51_mkM _ _ _ (⟨a1, a2⟩ : S51)); (case aB => exact (skB HB.out)); (case aF => exact (fun _ _ => trivial)); (case aO => exact (skR HO_9.out)); (case aS => exact (below_size (skB HB.out))); (case aL => have := LMc24.out; omega); intro v224 w25 ho hb hg hat; rw [← Ny223.out] at ho; have n0_ := asd (hb); have n1_ := asd (ho); clear HB; clear HO_9; have HB := n0_; have HO225 := n1_; clear n0_ n1_; clear ho hb hg hat))
      go_ret
      exact ⟨_, re, skR HO225.out, skB HB.out⟩
     ·
      rw [if_neg c24] at H
      exact absurd H (by simp)
end Go.Proofs.Ytanlnfcjdjamaaa.P
/- F32 -/
namespace Go.Proofs.Ytanlnfcjdjamaaa.P
open Go.RowKit Go.Proofs.YtanlnfcjdjamaaaW.PrintWords Go.Proofs.YtanlnfcjdjamaaaW.PrintLast Go.Proofs.YtanlnfcjdjamaaaW.PrintMore
attribute [local go_sem] max2_int min2_int max_two min_two max_three min_three max_four min_four   -- for this text's walks alone
set_option linter.unusedVariables false
set_option linter.unusedSimpArgs false
def larchref06_look.l0 : Nat → List (S51) → Int → Int → Option (Int × Bool)
 | 0, _, _, _ => none
 | k + 1, x0, x1, x6 => if x6 < (x0.length : Int) then (if 0 ≤ x6 then (if ((J51 x0 x6).f0) = x1 then (some ((J51 x0 x6).f1, true)) else (larchref06_look.l0 k x0 x1 (wrap64 (x6 + 1)))) else (none)) else (some (0, false))
def larchref06_look.f (k : Nat) (l0 : List (S51)) (a1 : Int) : Option (Int × Bool) := larchref06_look.l0 k l0 a1 0
set_option maxHeartbeats 8000000 in
set_option maxRecDepth 100000 in
theorem larchref06_look.calls (k : Nat) (A0 : Option Addr) (c0 : Nat) (l0 : List (S51)) (a1 : Int) (r1 : Int) (r2 : Bool) (w : World) (hr0 : Kd.C k51 w A0 l0.length l0) (hc0 : l0.length ≤ c0) (h : larchref06_look.f k l0 a1 = some (r1, r2)) :
  Calls Try.prog 48 #[.slice A0 l0.length c0, .int .i64 a1] w fun e w' => e = .returned (.tuple #[.int .i64 r1, .bool r2]) ∧ Drawn0 w w' := by
 have HR0 := asd hr0
 have HC0 := asd hc0
 clear hr0 hc0
 have H : (larchref06_look.l0 k l0 a1 0) = some (r1, r2) := h
 clear h
 have H' := asd H
 clear H
 go_enter Try.func48, Try.ntmps48
 go_wp2
 go_loopg [6] k (fun kq v6 w' => ∃ (x6_1 : Int), v6 = .int .i64 x6_1 ∧ Aside0 (larchref06_look.l0 kq l0 a1 x6_1 = some (r1, r2)) ∧ Aside0 (kq ≤ k) ∧ Drawn0 w w')
 case atStart => exact ⟨(0), rs, H', ⟨Nat.le_refl _⟩, by repeat (first | exact Drawn0.refl _ | apply Drawn0.step)⟩
 case round =>
  clear H'
  try clear p2
  obtain ⟨x6_1, rfl, HA, HK1, ⟨m1, rfl⟩⟩ := hrel
  cases gk with
  | zero => exact absurd HA.out (by simp [larchref06_look.l0])
  | succ k1 =>
   have H := HA.out
   clear HA
   simp only [larchref06_look.l0] at H
   by_cases c3 : x6_1 < (l0.length : Int)
   ·
    rw [if_pos c3] at H
    have c3b0 : decide (x6_1 < (l0.length : Int)) = true := decide_eq_true c3
    clear c3
    by_cases c4 : 0 ≤ x6_1
    ·
     rw [if_pos c4] at H
     have c4b0 : decide (0 ≤ x6_1) = true := decide_eq_true c4
     clear c4
     by_cases c5 : ((J51 l0 x6_1).f0) = a1
     ·
      rw [if_pos c5] at H
      have c5b0 : (((J51 l0 x6_1).f0) == a1) = true := beq_iff_eq.mpr c5
      have c5b1 : (((J51 l0 x6_1).f0) != a1) = false := bne_eq_false_iff_eq.mpr c5
      clear c5
      simp only [Option.some.injEq, Prod.mk.injEq] at H
      obtain ⟨rfl, rfl⟩ := H
      have p240 : 0 ≤ (x6_1 : Int) := dt
      have q240 : x6_1 < (l0.length : Int) := dt
      obtain ⟨ad240, e240, hx240_0, hx240_1⟩ := at_T51 HR0.out x6_1 p240 q240
      cases e240
      replace p240 := eq_true p240
      replace q240 := eq_true q240
      have p241 : 0 ≤ (x6_1 : Int) := dt
      have q241 : x6_1 < (l0.length : Int) := dt
      obtain ⟨ad241, e241, hx241_0, hx241_1⟩ := at_T51 HR0.out x6_1 p241 q241
      obtain rfl : ad240 = ad241 := (by injection e241)
      replace p241 := eq_true p241
      replace q241 := eq_true q241
      go_wp2
      go_ret2
      exact ⟨by first | rfl | (simp; done) | (simp [*]; done), by repeat (first | exact Drawn0.refl _ | apply Drawn0.step)⟩
     ·
      rw [if_neg c5] at H
      have c5b0 : (((J51 l0 x6_1).f0) == a1) = false := beq_eq_false_iff_ne.mpr c5
      have c5b1 : (((J51 l0 x6_1).f0) != a1) = true := bne_iff_ne.mpr c5
      have H' := asd H
      clear H
      have p240 : 0 ≤ (x6_1 : Int) := dt
      have q240 : x6_1 < (l0.length : Int) := dt
      obtain ⟨ad240, e240, hx240_0, hx240_1⟩ := at_T51 HR0.out x6_1 p240 q240
      cases e240
      replace p240 := eq_true p240
      replace q240 := eq_true q240
      go_wp2
      go_roundg k1
      case measure => have := HK1.out; omega
      case rel => exact ⟨(wrap64 (x6_1 + 1)), rs, H', ⟨by have := HK1.out; omega⟩, by repeat (first | exact Drawn0.refl _ | apply Drawn0.step)⟩
    ·
     rw [if_neg c4] at H
     exact absurd H (by simp)
   ·
    rw [if_neg c3] at H
    have c3b0 : decide (x6_1 < (l0.length : Int)) = false := decide_eq_false c3
    clear c3
    simp only [Option.some.injEq, Prod.mk.injEq] at H
    obtain ⟨rfl, rfl⟩ := H
    go_wp2
    go_ret2
    exact ⟨by first | rfl | (simp; done) | (simp [*]; done), by repeat (first | exact Drawn0.refl _ | apply Drawn0.step)⟩
end Go.Proofs.Ytanlnfcjdjamaaa.P
/- F35 -/
namespace Go.Proofs.Ytanlnfcjdjamaaa.P
open Go.RowKit Go.Proofs.YtanlnfcjdjamaaaW.PrintWords Go.Proofs.YtanlnfcjdjamaaaW.PrintLast Go.Proofs.YtanlnfcjdjamaaaW.PrintMore
attribute [local go_sem] max2_int min2_int max_two min_two max_three min_three max_four min_four   -- for this text's walks alone
set_option linter.unusedVariables false
set_option linter.unusedSimpArgs false
def larchref06_SameRet.f (k : Nat) (a0_0 : Bool) (a0_1 : Int) (a0_2 : Int) (l0_3 : List (S51)) (a1_0 : Bool) (a1_1 : Int) (a1_2 : Int) (l1_3 : List (S51)) : Option (Bool) := if (a0_0 == a1_0) = true then (if a0_1 = a1_1 then (if a0_2 = a1_2 then ((larchref06_Same.f k l0_3 l1_3).bind fun t244 => (some t244)) else (some false)) else (some false)) else (some false)
set_option maxHeartbeats 8000000 in
set_option maxRecDepth 100000 in
theorem larchref06_SameRet.calls (k : Nat) (a0_0 : Bool) (a0_1 : Int) (a0_2 : Int) (A0_3 : Option Addr) (c0_3 : Nat) (l0_3 : List (S51)) (a1_0 : Bool) (a1_1 : Int) (a1_2 : Int) (A1_3 : Option Addr) (c1_3 : Nat) (l1_3 : List (S51)) (r : Bool) (w : World) (hr0_3 : Kd.C k51 w A0_3 l0_3.length l0_3) (hc0_3 : l0_3.length ≤ c0_3) (hr1_3 : Kd.C k51 w A1_3 l1_3.length l1_3) (hc1_3 : l1_3.length ≤ c1_3) (h : larchref06_SameRet.f k a0_0 a0_1 a0_2 l0_3 a1_0 a1_1 a1_2 l1_3 = some r) :
  Calls Try.prog 13 #[.agg #[.bool a0_0, .int .i64 a0_1, .int .i64 a0_2, .slice A0_3 l0_3.length c0_3], .agg #[.bool a1_0, .int .i64 a1_1, .int .i64 a1_2, .slice A1_3 l1_3.length c1_3]] w fun e w' => e = .returned (.bool r) ∧ Below w.heap.size w w' := by
 have hu27 := Try.underlying27
 have HR0_3 := asd hr0_3
 have HC0_3 := asd hc0_3
 clear hr0_3 hc0_3
 have HR1_3 := asd hr1_3
 have HC1_3 := asd hc1_3
 clear hr1_3 hc1_3
 have HB := asd (Below.refl w.heap.size w)
 have H : (if (a0_0 == a1_0) = true then (if a0_1 = a1_1 then (if a0_2 = a1_2 then ((larchref06_Same.f k l0_3 l1_3).bind fun t244 => (some t244)) else (some false)) else (some false)) else (some false)) = some r := h
 clear h
 by_cases c3 : (a0_0 == a1_0) = true
 ·
  rw [if_pos c3] at H
  have c3b0 : (a0_0 == a1_0) = true := c3
  (try (have c3b1 : decide (a0_0 = a1_0) = true := by simpa using c3))
  (try (have c3b2 : (a0_0 == a1_0) = true := by simpa using c3))
  clear c3
  by_cases c4 : a0_1 = a1_1
  ·
   rw [if_pos c4] at H
   have c4b0 : (a0_1 == a1_1) = true := beq_iff_eq.mpr c4
   have c4b1 : (a0_1 != a1_1) = false := bne_eq_false_iff_eq.mpr c4
   clear c4
   by_cases c5 : a0_2 = a1_2
   ·
    rw [if_pos c5] at H
    have c5b0 : (a0_2 == a1_2) = true := beq_iff_eq.mpr c5
    have c5b1 : (a0_2 != a1_2) = false := bne_eq_false_iff_eq.mpr c5
    clear c5
    replace H := Option.bind_eq_some_iff.mp H
    obtain ⟨t244, A60, H⟩ := H
    replace H : (some t244) = some r := H
    have A6 := asd A60
    clear A60
    obtain rfl := Option.some.inj H
    go_enter Try.func13, Try.ntmps13
    go_wp2_with (first | ((with_reducible refine gate_dst (N := 2) rfl ?_); refine box_event ?hg (N := 2) ?hd (cs := #[.bool a0_0, .int .i64 a0_1, .int .i64 a0_2, .slice A0_3 l0_3.length c0_3]) (t := 27) ?hr ?_; (case hd => rfl); (case hg => rfl); (case hr => first | (go_simp; done) | (go_simp; rfl)); intro gb242 hg w7 hbox hb; have n0_ := asd (below_step (skB HB.out) hb); have n1_ := asd (hbox); have n2_ := asd ((by rw [hg]; exact (below_size (skB HB.out)) : w.heap.size ≤ gb242)); have n3_ := asd ((by rw [hg]; exact (below_size (skB HB.out)) : w.heap.size ≤ gb242)); clear HB; have HB := n0_; have BK242 := n1_; have GW242 := n2_; have GE242 := n3_; clear n0_ n1_ n2_ n3_; clear hb hbox hg) | ((with_reducible refine gate_dst (N := 3) rfl ?_); refine box_event ?hg (N := 3) ?hd (cs := #[.bool a1_0, .int .i64 a1_1, .int .i64 a1_2, .slice A1_3 l1_3.length c1_3]) (t := 27) ?hr ?_; (case hd => rfl); (case hg => rfl); (case hr => first | (go_simp; done) | (go_simp; rfl)); intro gb243 hg w8 hbox hb; have n0_ := asd (blk_below (g := gb242) (o := .cells #[.bool a0_0, .int .i64 a0_1, .int .i64 a0_2, .slice A0_3 l0_3.length c0_3] 27 (0, 0)) (skK BK242.out) hb); have n1_ := asd (below_step (skG HB.out GE242.out GE242.out) hb); have n2_ := asd (hbox); have n3_ := asd ((by rw [hg]; exact (below_size (skG HB.out GE242.out GE242.out)) : w.heap.size ≤ gb243)); have n4_ := asd ((by rw [hg]; exact (below_size (skG HB.out GE242.out GE242.out)) : w.heap.size ≤ gb243)); have n5_ := asd ((by rw [hg]; exact Nat.ne_of_lt (blk_lt (g := gb242) (o := .cells #[.bool a0_0, .int .i64 a0_1, .int .i64 a0_2, .slice A0_3 l0_3.length c0_3] 27 (0, 0)) (skK BK242.out)) : gb242 ≠ gb243)); have n6_ := asd ((by rw [hg]; exact Nat.ne_of_gt (blk_lt (g := gb242) (o := .cells #[.bool a0_0, .int .i64 a0_1, .int .i64 a0_2, .slice A0_3 l0_3.length c0_3] 27 (0, 0)) (skK BK242.out)) : gb243 ≠ gb242)); clear BK242; clear HB; have BK242 := n0_; have HB := n1_; have BK243 := n2_; have GW243 := n3_; have GE243 := n4_; have NB242_243 := n5_; have NB243_242 := n6_; clear n0_ n1_ n2_ n3_ n4_ n5_ n6_; clear hb hbox hg; have hnb9 := NB242_243.out; have hnc9 := NB243_242.out; obtain ⟨hcz10_0, hcz10_1, hcz10_2, hcz10_3, hfz10_0, hfz10_1, hfz10_2, hfz10_3⟩ := bk4 BK242.out; obtain ⟨hcz11_0, hcz11_1, hcz11_2, hcz11_3, hfz11_0, hfz11_1, hfz11_2, hfz11_3⟩ := bk4 BK243.out) | (go_at_call 12; (with_reducible refine (larchref06_Same.calls k _ _ l0_3 _ _ l1_3 t244 _ ?side1 ?side2 ?side3 ?side4 A6.out).mono ?_); (case side1 => exact skC (Kd.C_below HR0_3.out HB.out)); (case side2 => exact HC0_3.out); (case side3 => exact skC (Kd.C_below HR1_3.out HB.out)); (case side4 => exact HC1_3.out); rintro e w' ⟨rfl, ⟨nd, rfl⟩⟩))
    go_ret
    exact ⟨re, skG HB.out GE242.out GE243.out⟩
   ·
    rw [if_neg c5] at H
    have c5b0 : (a0_2 == a1_2) = false := beq_eq_false_iff_ne.mpr c5
    have c5b1 : (a0_2 != a1_2) = true := bne_iff_ne.mpr c5
    obtain rfl := Option.some.inj H
    go_enter Try.func13, Try.ntmps13
    go_wp2_with (first | ((with_reducible refine gate_dst (N := 2) rfl ?_); refine box_event ?hg (N := 2) ?hd (cs := #[.bool a0_0, .int .i64 a0_1, .int .i64 a0_2, .slice A0_3 l0_3.length c0_3]) (t := 27) ?hr ?_; (case hd => rfl); (case hg => rfl); (case hr => first | (go_simp; done) | (go_simp; rfl)); intro gb242 hg w12 hbox hb; have n0_ := asd (below_step (skB HB.out) hb); have n1_ := asd (hbox); have n2_ := asd ((by rw [hg]; exact (below_size (skB HB.out)) : w.heap.size ≤ gb242)); have n3_ := asd ((by rw [hg]; exact (below_size (skB HB.out)) : w.heap.size ≤ gb242)); clear HB; have HB := n0_; have BK242 := n1_; have GW242 := n2_; have GE242 := n3_; clear n0_ n1_ n2_ n3_; clear hb hbox hg) | ((with_reducible refine gate_dst (N := 3) rfl ?_); refine box_event ?hg (N := 3) ?hd (cs := #[.bool a1_0, .int .i64 a1_1, .int .i64 a1_2, .slice A1_3 l1_3.length c1_3]) (t := 27) ?hr ?_; (case hd => rfl); (case hg => rfl); (case hr => first | (go_simp; done) | (go_simp; rfl)); intro gb243 hg w13 hbox hb; have n0_ := asd (blk_below (g := gb242) (o := .cells #[.bool a0_0, .int .i64 a0_1, .int .i64 a0_2, .slice A0_3 l0_3.length c0_3] 27 (0, 0)) (skK BK242.out) hb); have n1_ := asd (below_step (skG HB.out GE242.out GE242.out) hb); have n2_ := asd (hbox); have n3_ := asd ((by rw [hg]; exact (below_size (skG HB.out GE242.out GE242.out)) : w.heap.size ≤ gb243)); have n4_ := asd ((by rw [hg]; exact (below_size (skG HB.out GE242.out GE242.out)) : w.heap.size ≤ gb243)); have n5_ := asd ((by rw [hg]; exact Nat.ne_of_lt (blk_lt (g := gb242) (o := .cells #[.bool a0_0, .int .i64 a0_1, .int .i64 a0_2, .slice A0_3 l0_3.length c0_3] 27 (0, 0)) (skK BK242.out)) : gb242 ≠ gb243)); have n6_ := asd ((by rw [hg]; exact Nat.ne_of_gt (blk_lt (g := gb242) (o := .cells #[.bool a0_0, .int .i64 a0_1, .int .i64 a0_2, .slice A0_3 l0_3.length c0_3] 27 (0, 0)) (skK BK242.out)) : gb243 ≠ gb242)); clear BK242; clear HB; have BK242 := n0_; have HB := n1_; have BK243 := n2_; have GW243 := n3_; have GE243 := n4_; have NB242_243 := n5_; have NB243_242 := n6_; clear n0_ n1_ n2_ n3_ n4_ n5_ n6_; clear hb hbox hg; have hnb14 := NB242_243.out; have hnc14 := NB243_242.out; obtain ⟨hcz15_0, hcz15_1, hcz15_2, hcz15_3, hfz15_0, hfz15_1, hfz15_2, hfz15_3⟩ := bk4 BK242.out; obtain ⟨hcz16_0, hcz16_1, hcz16_2, hcz16_3, hfz16_0, hfz16_1, hfz16_2, hfz16_3⟩ := bk4 BK243.out))
    go_ret
    exact ⟨re, skG HB.out GE242.out GE243.out⟩
  ·
   rw [if_neg c4] at H
   have c4b0 : (a0_1 == a1_1) = false := beq_eq_false_iff_ne.mpr c4
   have c4b1 : (a0_1 != a1_1) = true := bne_iff_ne.mpr c4
   obtain rfl := Option.some.inj H
   go_enter Try.func13, Try.ntmps13
   go_wp2_with (first | ((with_reducible refine gate_dst (N := 2) rfl ?_); refine box_event ?hg (N := 2) ?hd (cs := #[.bool a0_0, .int .i64 a0_1, .int .i64 a0_2, .slice A0_3 l0_3.length c0_3]) (t := 27) ?hr ?_; (case hd => rfl); (case hg => rfl); (case hr => first | (go_simp; done) | (go_simp; rfl)); intro gb242 hg w17 hbox hb; have n0_ := asd (below_step (skB HB.out) hb); have n1_ := asd (hbox); have n2_ := asd ((by rw [hg]; exact (below_size (skB HB.out)) : w.heap.size ≤ gb242)); have n3_ := asd ((by rw [hg]; exact (below_size (skB HB.out)) : w.heap.size ≤ gb242)); clear HB; have HB := n0_; have BK242 := n1_; have GW242 := n2_; have GE242 := n3_; clear n0_ n1_ n2_ n3_; clear hb hbox hg) | ((with_reducible refine gate_dst (N := 3) rfl ?_); refine box_event ?hg (N := 3) ?hd (cs := #[.bool a1_0, .int .i64 a1_1, .int .i64 a1_2, .slice A1_3 l1_3.length c1_3]) (t := 27) ?hr ?_; (case hd => rfl); (case hg => rfl); (case hr => first | (go_simp; done) | (go_simp; rfl)); intro gb243 hg w18 hbox hb; have n0_ := asd (blk_below (g := gb242) (o := .cells #[.bool a0_0, .int .i64 a0_1, .int .i64 a0_2, .slice A0_3 l0_3.length c0_3] 27 (0, 0)) (skK BK242.out) hb); have n1_ := asd (below_step (skG HB.out GE242.out GE242.out) hb); have n2_ := asd (hbox); have n3_ := asd ((by rw [hg]; exact (below_size (skG HB.out GE242.out GE242.out)) : w.heap.size ≤ gb243)); have n4_ := asd ((by rw [hg]; exact (below_size (skG HB.out GE242.out GE242.out)) : w.heap.size ≤ gb243)); have n5_ := asd ((by rw [hg]; exact Nat.ne_of_lt (blk_lt (g := gb242) (o := .cells #[.bool a0_0, .int .i64 a0_1, .int .i64 a0_2, .slice A0_3 l0_3.length c0_3] 27 (0, 0)) (skK BK242.out)) : gb242 ≠ gb243)); have n6_ := asd ((by rw [hg]; exact Nat.ne_of_gt (blk_lt (g := gb242) (o := .cells #[.bool a0_0, .int .i64 a0_1, .int .i64 a0_2, .slice A0_3 l0_3.length c0_3] 27 (0, 0)) (skK BK242.out)) : gb243 ≠ gb242)); clear BK242; clear HB; have BK242 := n0_; have HB := n1_; have BK243 := n2_; have GW243 := n3_; have GE243 := n4_; have NB242_243 := n5_; have NB243_242 := n6_; clear n0_ n1_ n2_ n3_ n4_ n5_ n6_; clear hb hbox hg; have hnb19 := NB242_243.out; have hnc19 := NB243_242.out; obtain ⟨hcz20_0, hcz20_1, hcz20_2, hcz20_3, hfz20_0, hfz20_1, hfz20_2, hfz20_3⟩ := bk4 BK242.out; obtain ⟨hcz21_0, hcz21_1, hcz21_2, hcz21_3, hfz21_0, hfz21_1, hfz21_2, hfz21_3⟩ := bk4 BK243.out))
   go_ret
   exact ⟨re, skG HB.out GE242.out GE243.out⟩
 ·
  rw [if_neg c3] at H
  have c3b0 : (a0_0 == a1_0) = false := by simpa using c3
  (try (have c3b1 : decide (a0_0 = a1_0) = false := by simpa using c3))
  (try (have c3b2 : (a0_0 == a1_0) = false := by simpa using c3))
  (try (have c3b3 : ¬ (a0_0 = a1_0) := by simpa using c3))
  clear c3
  obtain rfl := Option.some.inj H
  go_enter Try.func13, Try.ntmps13
  go_wp2_with (first | ((with_reducible refine gate_dst (N := 2) rfl ?_); refine box_event ?hg (N := 2) ?hd (cs := #[.bool a0_0, .int .i64 a0_1, .int .i64 a0_2, .slice A0_3 l0_3.length c0_3]) (t := 27) ?hr ?_; (case hd => rfl); (case hg => rfl); (case hr => first | (go_simp; done) | (go_simp; rfl)); intro gb242 hg w22 hbox hb; have n0_ := asd (below_step (skB HB.out) hb); have n1_ := asd (hbox); have n2_ := asd ((by rw [hg]; exact (below_size (skB HB.out)) : w.heap.size ≤ gb242)); have n3_ := asd ((by rw [hg]; exact (below_size (skB HB.out)) : w.heap.size ≤ gb242)); clear HB; have HB := n0_; have BK242 := n1_; have GW242 := n2_; have GE242 := n3_; clear n0_ n1_ n2_ n3_; clear hb hbox hg) | ((with_reducible refine gate_dst (N := 3) rfl ?_); refine box_event ?hg (N := 3) ?hd (cs := #[.bool a1_0, .int .i64 a1_1, .int .i64 a1_2, .slice A1_3 l1_3.length c1_3]) (t := 27) ?hr ?_; (case hd => rfl); (case hg => rfl); (case hr => first | (go_simp; done) | (go_simp; rfl)); intro gb243 hg w23 hbox hb; have n0_ := asd (blk_below (g := gb242) (o := .cells #[.bool a0_0, .int .i64 a0_1, .int .i64 a0_2, .slice A0_3 l0_3.length c0_3] 27 (0, 0)) (skK BK242.out) hb); have n1_ := asd (below_step (skG HB.out GE242.out GE242.out) hb); have n2_ := asd (hbox); have n3_ := asd ((by rw [hg]; exact (below_size (skG HB.out GE242.out GE242.out)) : w.heap.size ≤ gb243)); have n4_ := asd ((by rw [hg]; exact (below_size (skG HB.out GE242.out GE242.out)) : w.heap.size ≤ gb243)); have n5_ := asd ((by rw [hg]; exact Nat.ne_of_lt (blk_lt (g := gb242) (o := .cells #[.bool a0_0, .int .i64 a0_1, .int .i64 a0_2, .slice A0_3 l0_3.length c0_3] 27 (0, 0)) (skK BK242.out)) : gb242 ≠ gb243)); have n6_ := asd ((by rw [hg]; exact Nat.ne_of_gt (blk_lt (g := gb242) (o := .cells #[.bool a0_0, .int .i64 a0_1, .int .i64 a0_2, .slice A0_3 l0_3.length c0_3] 27 (0, 0)) (skK BK242.out)) : gb243 ≠ gb242)); clear BK242; clear HB; have BK242 := n0_; have HB := n1_; have BK243 := n2_; have GW243 := n3_; have GE243 := n4_; have NB242_243 := n5_; have NB243_242 := n6_; clear n0_ n1_ n2_ n3_ n4_ n5_ n6_; clear hb hbox hg; have hnb24 := NB242_243.out; have hnc24 := NB243_242.out; obtain ⟨hcz25_0, hcz25_1, hcz25_2, hcz25_3, hfz25_0, hfz25_1, hfz25_2, hfz25_3⟩ := bk4 BK242.out; obtain ⟨hcz26_0, hcz26_1, hcz26_2, hcz26_3, hfz26_0, hfz26_1, hfz26_2, hfz26_3⟩ := bk4 BK243.out))
  go_ret
  exact ⟨re, skG HB.out GE242.out GE243.out⟩
end Go.Proofs.Ytanlnfcjdjamaaa.P
/- F37 -/
namespace Go.Proofs.Ytanlnfcjdjamaaa.P
open Go.RowKit Go.Proofs.YtanlnfcjdjamaaaW.PrintWords Go.Proofs.YtanlnfcjdjamaaaW.PrintLast Go.Proofs.YtanlnfcjdjamaaaW.PrintMore
attribute [local go_sem] max2_int min2_int max_two min_two max_three min_three max_four min_four   -- for this text's walks alone
set_option linter.unusedVariables false
set_option linter.unusedSimpArgs false
def larchref06_SameRets.l0 : Nat → List (S27) → List (S27) → Int → Option (Bool)
 | 0, _, _, _ => none
 | k + 1, x0, x1, x5 => if x5 < (x0.length : Int) then (if 0 ≤ x5 then (if x5 < (x1.length : Int) then ((larchref06_SameRet.f k ((J27 x0 x5).f0) ((J27 x0 x5).f1) ((J27 x0 x5).f2) ((J27 x0 x5).f3) ((J27 x1 x5).f0) ((J27 x1 x5).f1) ((J27 x1 x5).f2) ((J27 x1 x5).f3)).bind fun t270 => (if t270 = true then (larchref06_SameRets.l0 k x0 x1 (wrap64 (x5 + 1))) else (some false))) else (none)) else (none)) else (some true)
def larchref06_SameRets.f (k : Nat) (l0 : List (S27)) (l1 : List (S27)) : Option (Bool) := if (l0.length : Int) = (l1.length : Int) then (larchref06_SameRets.l0 k l0 l1 0) else (some false)
def larchref06_SameRets.T6 : Bool × List (List Nat × List Nat) := (true, [([], []), ([], []), ([0, 1], [0, 1]), ([2], [2]), ([], []), ([], []), ([4, 5], [4, 5]), ([6], [6]), ([3, 7], [3, 7]), ([8], [8])])
def larchref06_SameRets.B6 : List Nat := [0, 0, 3, 7, 0, 0, 48, 112, 255, 511]
theorem larchref06_SameRets.tab6 : rtab .any (opsOf Try.f17 6) = larchref06_SameRets.T6 := by kernel_rfl
theorem larchref06_SameRets.bits6 : waitsOk larchref06_SameRets.T6.2 larchref06_SameRets.B6 = true := by kernel_rfl
set_option maxHeartbeats 8000000 in
set_option maxRecDepth 100000 in
theorem larchref06_SameRets.calls (k : Nat) (A0 : Option Addr) (c0 : Nat) (l0 : List (S27)) (A1 : Option Addr) (c1 : Nat) (l1 : List (S27)) (r : Bool) (w : World) (hr0 : Kd.C k27 w A0 l0.length l0) (hc0 : l0.length ≤ c0) (hr1 : Kd.C k27 w A1 l1.length l1) (hc1 : l1.length ≤ c1) (h : larchref06_SameRets.f k l0 l1 = some r) :
  Calls Try.prog 17 #[.slice A0 l0.length c0, .slice A1 l1.length c1] w fun e w' => e = .returned (.bool r) ∧ Below w.heap.size w w' := by
 have hu27 := Try.underlying27
 have HR0 := asd hr0
 have HC0 := asd hc0
 clear hr0 hc0
 have HR1 := asd hr1
 have HC1 := asd hc1
 clear hr1 hc1
 have HB := asd (Below.refl w.heap.size w)
 have H : (if (l0.length : Int) = (l1.length : Int) then (larchref06_SameRets.l0 k l0 l1 0) else (some false)) = some r := h
 clear h
 by_cases c3 : (l0.length : Int) = (l1.length : Int)
 ·
  rw [if_pos c3] at H
  have c3b0 : ((l0.length : Int) == (l1.length : Int)) = true := beq_iff_eq.mpr c3
  have c3b1 : ((l0.length : Int) != (l1.length : Int)) = false := bne_eq_false_iff_eq.mpr c3
  have c3b2 : (l0.length == l1.length) = true := by first | simpa using c3 | (simp at c3 ⊢; omega)
  clear c3
  have H' := asd H
  clear H
  go_enter Try.func17, Try.ntmps17
  go_wp2
  go_loopg [5] k (fun kq v5 w' => ∃ (x5_1 : Int), v5 = .int .i64 x5_1 ∧ Aside0 (larchref06_SameRets.l0 kq l0 l1 x5_1 = some r) ∧ Aside0 (kq ≤ k) ∧ Aside0 (Below w.heap.size w w'))
  case atStart => exact ⟨(0), rs, H', ⟨Nat.le_refl _⟩, ⟨skB HB.out⟩⟩
  case round =>
   clear H'
   try clear c1
   try clear p2
   try clear c3
   try clear c3b0
   try clear c3b1
   try clear c3b2
   obtain ⟨x5_1, rfl, HA, HK1, HB⟩ := hrel
   cases gk with
   | zero => exact absurd HA.out (by simp [larchref06_SameRets.l0])
   | succ k1 =>
    have H := HA.out
    clear HA
    simp only [larchref06_SameRets.l0] at H
    by_cases c4 : x5_1 < (l0.length : Int)
    ·
     rw [if_pos c4] at H
     have c4b0 : decide (x5_1 < (l0.length : Int)) = true := decide_eq_true c4
     clear c4
     by_cases c5 : 0 ≤ x5_1
     ·
      rw [if_pos c5] at H
      have c5b0 : decide (0 ≤ x5_1) = true := decide_eq_true c5
      clear c5
      by_cases c6 : x5_1 < (l1.length : Int)
      ·
       rw [if_pos c6] at H
       have c6b0 : decide (x5_1 < (l1.length : Int)) = true := decide_eq_true c6
       clear c6
       replace H := Option.bind_eq_some_iff.mp H
       obtain ⟨t270, A70, H⟩ := H
       replace H : (if t270 = true then (larchref06_SameRets.l0 k1 l0 l1 (wrap64 (x5_1 + 1))) else (some false)) = some r := H
       have A7 := asd A70
       clear A70
       by_cases c8 : t270 = true
       ·
        subst c8
        have H1 : (larchref06_SameRets.l0 k1 l0 l1 (wrap64 (x5_1 + 1))) = some r := by rw [if_pos rfl] at H; exact H
        clear H
        have H := H1
        clear H1
        have H' := asd H
        clear H
        try go_wp2
        have n0_ := asd (below_drew1 HB.out)
        clear HB
        have HB := n0_
        clear n0_
        have p268 : 0 ≤ (x5_1 : Int) := dt
        have q268 : x5_1 < (l0.length : Int) := dt
        obtain ⟨ad268, A268_3, c268_3, e268, hx268_0, hx268_1, hx268_2, hx268_3, hl268_3, hi268_3⟩ := at_T27 HR0.out x5_1 p268 q268
        have hw268_3 := hx268_3
        have hw268_2 := hx268_2
        have hw268_1 := hx268_1
        have hw268_0 := hx268_0
        cases e268
        replace hx268_0 := skc HB.out hx268_0
        replace hx268_1 := skc HB.out hx268_1
        replace hx268_2 := skc HB.out hx268_2
        replace hx268_3 := skc HB.out hx268_3
        have HR268_3 := asd hi268_3
        have HC268_3 := asd hl268_3
        clear hi268_3 hl268_3
        replace p268 := eq_true p268
        replace q268 := eq_true q268
        have p269 : 0 ≤ (x5_1 : Int) := dt
        have q269 : x5_1 < (l1.length : Int) := dt
        obtain ⟨ad269, A269_3, c269_3, e269, hx269_0, hx269_1, hx269_2, hx269_3, hl269_3, hi269_3⟩ := at_T27 HR1.out x5_1 p269 q269
        have hw269_3 := hx269_3
        have hw269_2 := hx269_2
        have hw269_1 := hx269_1
        have hw269_0 := hx269_0
        cases e269
        replace hx269_0 := skc HB.out hx269_0
        replace hx269_1 := skc HB.out hx269_1
        replace hx269_2 := skc HB.out hx269_2
        replace hx269_3 := skc HB.out hx269_3
        have HR269_3 := asd hi269_3
        have HC269_3 := asd hl269_3
        clear hi269_3 hl269_3
        replace p269 := eq_true p269
        replace q269 := eq_true q269
        refine start_ (n := 10) (S := fun w' => w'.cell? (ad268.add ((x5_1).toNat * 4)) = some (.bool ((J27 l0 x5_1).f0)) ∧ w'.cell? ⟨(ad268.add ((x5_1).toNat * 4)).block, (ad268.add ((x5_1).toNat * 4)).off + 1, none⟩ = some (.int .i64 ((J27 l0 x5_1).f1)) ∧ w'.cell? ⟨(ad268.add ((x5_1).toNat * 4)).block, (ad268.add ((x5_1).toNat * 4)).off + 2, none⟩ = some (.int .i64 ((J27 l0 x5_1).f2)) ∧ w'.cell? ⟨(ad268.add ((x5_1).toNat * 4)).block, (ad268.add ((x5_1).toNat * 4)).off + 3, none⟩ = some (.slice A268_3 ((J27 l0 x5_1).f3).length c268_3) ∧ w'.cell? (ad269.add ((x5_1).toNat * 4)) = some (.bool ((J27 l1 x5_1).f0)) ∧ w'.cell? ⟨(ad269.add ((x5_1).toNat * 4)).block, (ad269.add ((x5_1).toNat * 4)).off + 1, none⟩ = some (.int .i64 ((J27 l1 x5_1).f1)) ∧ w'.cell? ⟨(ad269.add ((x5_1).toNat * 4)).block, (ad269.add ((x5_1).toNat * 4)).off + 2, none⟩ = some (.int .i64 ((J27 l1 x5_1).f2)) ∧ w'.cell? ⟨(ad269.add ((x5_1).toNat * 4)).block, (ad269.add ((x5_1).toNat * 4)).off + 3, none⟩ = some (.slice A269_3 ((J27 l1 x5_1).f3).length c269_3)) (ds := []) #[false,false,false,false,false,false,false,false,false,false] (by kernel_rfl) rfl rfl ⟨(skc HB.out hw268_0), (skc HB.out hw268_1), (skc HB.out hw268_2), (skc HB.out hw268_3), (skc HB.out hw269_0), (skc HB.out hw269_1), (skc HB.out hw269_2), (skc HB.out hw269_3)⟩ (fun hHeld => ?_); refine with_tabW larchref06_SameRets.tab6 larchref06_SameRets.bits6 (fun HT_ HW_ => ?_)
        generalize wr.drew = w9 at HB HR268_3 HR269_3 hx268_0 hx268_1 hx268_2 hx268_3 hx269_0 hx269_1 hx269_2 hx269_3 hHeld ⊢
        refine pure_ (i := 0) (N := some 17) (v := ?_) (a' := ?_) #[true,false,false,false,false,false,false,false,false,false] rfl rfl (aK HT_.out) (fun _ _ _ h => h) (Or.inl ⟨by rfl, ?_⟩) ?_ ?_
        rotate_left
        ·
         intro w'
         go_simp
         with_reducible rfl
        rotate_left
        ·
         simp only [Act.put, sp]
         rfl
        refine pure_ (i := 1) (N := some 18) (v := ?_) (a' := ?_) #[true,true,false,false,false,false,false,false,false,false] rfl rfl (aK HT_.out) (fun _ _ _ h => h) (Or.inl ⟨by rfl, ?_⟩) ?_ ?_
        rotate_left
        ·
         intro w'
         go_simp
         with_reducible rfl
        rotate_left
        ·
         simp only [Act.put, sp]
         rfl
        refine pure_ (i := 2) (N := some 19) (v := ?_) (a' := ?_) #[true,true,true,false,false,false,false,false,false,false] rfl rfl (aK HT_.out) (fun _ _ _ h => h) (Or.inl ⟨by rfl, ?_⟩) ?_ ?_
        rotate_left
        ·
         intro w'
         go_simp
         with_reducible rfl
        rotate_left
        ·
         simp only [Act.put, sp]
         rfl
        refine pure_ (i := 4) (N := some 21) (v := ?_) (a' := ?_) #[true,true,true,false,true,false,false,false,false,false] rfl rfl (aK HT_.out) (fun _ _ _ h => h) (Or.inl ⟨by rfl, ?_⟩) ?_ ?_
        rotate_left
        ·
         intro w'
         go_simp
         with_reducible rfl
        rotate_left
        ·
         simp only [Act.put, sp]
         rfl
        refine pure_ (i := 5) (N := some 22) (v := ?_) (a' := ?_) #[true,true,true,false,true,true,false,false,false,false] rfl rfl (aK HT_.out) (fun _ _ _ h => h) (Or.inl ⟨by rfl, ?_⟩) ?_ ?_
        rotate_left
        ·
         intro w'
         go_simp
         with_reducible rfl
        rotate_left
        ·
         simp only [Act.put, sp]
         rfl
        refine pure_ (i := 6) (N := some 23) (v := ?_) (a' := ?_) #[true,true,true,false,true,true,true,false,false,false] rfl rfl (aK HT_.out) (fun _ _ _ h => h) (Or.inl ⟨by rfl, ?_⟩) ?_ ?_
        rotate_left
        ·
         intro w'
         go_simp
         with_reducible rfl
        rotate_left
        ·
         simp only [Act.put, sp]
         rfl
        refine take_ (i := 3) (N := some 20) (v := ?_) (a' := ?_) #[true,true,true,true,true,true,true,false,false,false] rfl rfl (take_ofW HT_.out HW_.out (by kernel_rfl)) (fun _ _ _ h => h) (Or.inl ⟨by rfl, ?_⟩) hHeld ?_ ?_
        rotate_left
        ·
         rintro w' ⟨s0, s1, s2, s3, s4, s5, s6, s7⟩
         go_simp
         with_reducible rfl
        rotate_left
        ·
         simp only [Act.put, sp]
         rfl
        refine take_ (i := 7) (N := some 24) (v := ?_) (a' := ?_) #[true,true,true,true,true,true,true,true,false,false] rfl rfl (take_ofW HT_.out HW_.out (by kernel_rfl)) (fun _ _ _ h => h) (Or.inl ⟨by rfl, ?_⟩) hHeld ?_ ?_
        rotate_left
        ·
         rintro w' ⟨s0, s1, s2, s3, s4, s5, s6, s7⟩
         go_simp
         with_reducible rfl
        rotate_left
        ·
         simp only [Act.put, sp]
         rfl
        refine one_ (i := 8) (N := some 25) #[true,true,true,true,true,true,true,true,true,false] rfl rfl (one_of HT_.out (by kernel_rfl)) (by decide) (fun K hK => ?_)
        refine goes_ Try.func13 (by kernel_rfl) rfl #[.agg #[.bool ((J27 l0 x5_1).f0), .int .i64 ((J27 l0 x5_1).f1), .int .i64 ((J27 l0 x5_1).f2), .slice A268_3 ((J27 l0 x5_1).f3).length c268_3], .agg #[.bool ((J27 l1 x5_1).f0), .int .i64 ((J27 l1 x5_1).f1), .int .i64 ((J27 l1 x5_1).f2), .slice A269_3 ((J27 l1 x5_1).f3).length c269_3]] (by rfl) rfl rfl ags ?_
        with_reducible refine (larchref06_SameRet.calls k1 ((J27 l0 x5_1).f0) ((J27 l0 x5_1).f1) ((J27 l0 x5_1).f2) _ _ ((J27 l0 x5_1).f3) ((J27 l1 x5_1).f0) ((J27 l1 x5_1).f1) ((J27 l1 x5_1).f2) _ _ ((J27 l1 x5_1).f3) true _ ?side1 ?side2 ?side3 ?side4 A7.out).mono ?_
        (case side1 => exact skC (Kd.C_below HR268_3.out HB.out))
        (case side2 => exact HC268_3.out)
        (case side3 => exact skC (Kd.C_below HR269_3.out HB.out))
        (case side4 => exact HC269_3.out)
        rintro e w10 ⟨rfl, hb⟩
        refine ⟨_, rfl, ?_⟩
        have n0_ := asd (below_step (skB HB.out) hb)
        clear HB
        have HB := n0_
        clear n0_
        (try clear hb)
        (try clear hb2)
        (try clear hk)
        (try clear hi)
        refine hK.out _ _ ⟨(skc HB.out hw268_0), (skc HB.out hw268_1), (skc HB.out hw268_2), (skc HB.out hw268_3), (skc HB.out hw269_0), (skc HB.out hw269_1), (skc HB.out hw269_2), (skc HB.out hw269_3)⟩ (fun hHeld => ?_)
        clear hK K
        refine norm_ (a' := ?_) ?_ ?_
        rotate_left
        ·
         show Act.put _ (some 25) _ = _
         simp only [Act.put, sp]
         rfl
        refine pure_ (i := 9) (N := some 26) (v := ?_) (a' := ?_) #[true,true,true,true,true,true,true,true,true,true] rfl rfl (aK HT_.out) (fun _ _ _ h => h) (Or.inl ⟨by rfl, ?_⟩) ?_ ?_
        rotate_left
        ·
         intro w'
         go_simp
         with_reducible rfl
        rotate_left
        ·
         simp only [Act.put, sp]
         rfl
        refine done_ (done_of HT_.out (by kernel_rfl)) ?_
        try go_wp2
        go_roundg k1
        case measure => have := HK1.out; omega
        case rel => exact ⟨(wrap64 (x5_1 + 1)), rs, H', ⟨by have := HK1.out; omega⟩, ⟨skB HB.out⟩⟩
       ·
        replace c8 := Bool.eq_false_iff.mpr c8
        subst c8
        have H1 : (some false) = some r := by rw [if_neg (show ¬ (false = true) by decide)] at H; exact H
        clear H
        have H := H1
        clear H1
        obtain rfl := Option.some.inj H
        try go_wp2
        have n0_ := asd (below_drew1 HB.out)
        clear HB
        have HB := n0_
        clear n0_
        have p268 : 0 ≤ (x5_1 : Int) := dt
        have q268 : x5_1 < (l0.length : Int) := dt
        obtain ⟨ad268, A268_3, c268_3, e268, hx268_0, hx268_1, hx268_2, hx268_3, hl268_3, hi268_3⟩ := at_T27 HR0.out x5_1 p268 q268
        have hw268_3 := hx268_3
        have hw268_2 := hx268_2
        have hw268_1 := hx268_1
        have hw268_0 := hx268_0
        cases e268
        replace hx268_0 := skc HB.out hx268_0
        replace hx268_1 := skc HB.out hx268_1
        replace hx268_2 := skc HB.out hx268_2
        replace hx268_3 := skc HB.out hx268_3
        have HR268_3 := asd hi268_3
        have HC268_3 := asd hl268_3
        clear hi268_3 hl268_3
        replace p268 := eq_true p268
        replace q268 := eq_true q268
        have p269 : 0 ≤ (x5_1 : Int) := dt
        have q269 : x5_1 < (l1.length : Int) := dt
        obtain ⟨ad269, A269_3, c269_3, e269, hx269_0, hx269_1, hx269_2, hx269_3, hl269_3, hi269_3⟩ := at_T27 HR1.out x5_1 p269 q269
        have hw269_3 := hx269_3
        have hw269_2 := hx269_2
        have hw269_1 := hx269_1
        have hw269_0 := hx269_0
        cases e269
        replace hx269_0 := skc HB.out hx269_0
        replace hx269_1 := skc HB.out hx269_1
        replace hx269_2 := skc HB.out hx269_2
        replace hx269_3 := skc HB.out hx269_3
        have HR269_3 := asd hi269_3
        have HC269_3 := asd hl269_3
        clear hi269_3 hl269_3
        replace p269 := eq_true p269
        replace q269 := eq_true q269
        refine start_ (n := 10) (S := fun w' => w'.cell? (ad268.add ((x5_1).toNat * 4)) = some (.bool ((J27 l0 x5_1).f0)) ∧ w'.cell? ⟨(ad268.add ((x5_1).toNat * 4)).block, (ad268.add ((x5_1).toNat * 4)).off + 1, none⟩ = some (.int .i64 ((J27 l0 x5_1).f1)) ∧ w'.cell? ⟨(ad268.add ((x5_1).toNat * 4)).block, (ad268.add ((x5_1).toNat * 4)).off + 2, none⟩ = some (.int .i64 ((J27 l0 x5_1).f2)) ∧ w'.cell? ⟨(ad268.add ((x5_1).toNat * 4)).block, (ad268.add ((x5_1).toNat * 4)).off + 3, none⟩ = some (.slice A268_3 ((J27 l0 x5_1).f3).length c268_3) ∧ w'.cell? (ad269.add ((x5_1).toNat * 4)) = some (.bool ((J27 l1 x5_1).f0)) ∧ w'.cell? ⟨(ad269.add ((x5_1).toNat * 4)).block, (ad269.add ((x5_1).toNat * 4)).off + 1, none⟩ = some (.int .i64 ((J27 l1 x5_1).f1)) ∧ w'.cell? ⟨(ad269.add ((x5_1).toNat * 4)).block, (ad269.add ((x5_1).toNat * 4)).off + 2, none⟩ = some (.int .i64 ((J27 l1 x5_1).f2)) ∧ w'.cell? ⟨(ad269.add ((x5_1).toNat * 4)).block, (ad269.add ((x5_1).toNat * 4)).off + 3, none⟩ = some (.slice A269_3 ((J27 l1 x5_1).f3).length c269_3)) (ds := []) #[false,false,false,false,false,false,false,false,false,false] (by kernel_rfl) rfl rfl ⟨(skc HB.out hw268_0), (skc HB.out hw268_1), (skc HB.out hw268_2), (skc HB.out hw268_3), (skc HB.out hw269_0), (skc HB.out hw269_1), (skc HB.out hw269_2), (skc HB.out hw269_3)⟩ (fun hHeld => ?_); refine with_tabW larchref06_SameRets.tab6 larchref06_SameRets.bits6 (fun HT_ HW_ => ?_)
        generalize wr.drew = w11 at HB HR268_3 HR269_3 hx268_0 hx268_1 hx268_2 hx268_3 hx269_0 hx269_1 hx269_2 hx269_3 hHeld ⊢
        refine pure_ (i := 0) (N := some 17) (v := ?_) (a' := ?_) #[true,false,false,false,false,false,false,false,false,false] rfl rfl (aK HT_.out) (fun _ _ _ h => h) (Or.inl ⟨by rfl, ?_⟩) ?_ ?_
        rotate_left
        ·
         intro w'
         go_simp
         with_reducible rfl
        rotate_left
        ·
         simp only [Act.put, sp]
         rfl
        refine pure_ (i := 1) (N := some 18) (v := ?_) (a' := ?_) #[true,true,false,false,false,false,false,false,false,false] rfl rfl (aK HT_.out) (fun _ _ _ h => h) (Or.inl ⟨by rfl, ?_⟩) ?_ ?_
        rotate_left
        ·
         intro w'
         go_simp
         with_reducible rfl
        rotate_left
        ·
         simp only [Act.put, sp]
         rfl
        refine pure_ (i := 2) (N := some 19) (v := ?_) (a' := ?_) #[true,true,true,false,false,false,false,false,false,false] rfl rfl (aK HT_.out) (fun _ _ _ h => h) (Or.inl ⟨by rfl, ?_⟩) ?_ ?_
        rotate_left
        ·
         intro w'
         go_simp
         with_reducible rfl
        rotate_left
        ·
         simp only [Act.put, sp]
         rfl
        refine pure_ (i := 4) (N := some 21) (v := ?_) (a' := ?_) #[true,true,true,false,true,false,false,false,false,false] rfl rfl (aK HT_.out) (fun _ _ _ h => h) (Or.inl ⟨by rfl, ?_⟩) ?_ ?_
        rotate_left
        ·
         intro w'
         go_simp
         with_reducible rfl
        rotate_left
        ·
         simp only [Act.put, sp]
         rfl
        refine pure_ (i := 5) (N := some 22) (v := ?_) (a' := ?_) #[true,true,true,false,true,true,false,false,false,false] rfl rfl (aK HT_.out) (fun _ _ _ h => h) (Or.inl ⟨by rfl, ?_⟩) ?_ ?_
        rotate_left
        ·
         intro w'
         go_simp
         with_reducible rfl
        rotate_left
        ·
         simp only [Act.put, sp]
         rfl
        refine pure_ (i := 6) (N := some 23) (v := ?_) (a' := ?_) #[true,true,true,false,true,true,true,false,false,false] rfl rfl (aK HT_.out) (fun _ _ _ h => h) (Or.inl ⟨by rfl, ?_⟩) ?_ ?_
        rotate_left
        ·
         intro w'
         go_simp
         with_reducible rfl
        rotate_left
        ·
         simp only [Act.put, sp]
         rfl
        refine take_ (i := 3) (N := some 20) (v := ?_) (a' := ?_) #[true,true,true,true,true,true,true,false,false,false] rfl rfl (take_ofW HT_.out HW_.out (by kernel_rfl)) (fun _ _ _ h => h) (Or.inl ⟨by rfl, ?_⟩) hHeld ?_ ?_
        rotate_left
        ·
         rintro w' ⟨s0, s1, s2, s3, s4, s5, s6, s7⟩
         go_simp
         with_reducible rfl
        rotate_left
        ·
         simp only [Act.put, sp]
         rfl
        refine take_ (i := 7) (N := some 24) (v := ?_) (a' := ?_) #[true,true,true,true,true,true,true,true,false,false] rfl rfl (take_ofW HT_.out HW_.out (by kernel_rfl)) (fun _ _ _ h => h) (Or.inl ⟨by rfl, ?_⟩) hHeld ?_ ?_
        rotate_left
        ·
         rintro w' ⟨s0, s1, s2, s3, s4, s5, s6, s7⟩
         go_simp
         with_reducible rfl
        rotate_left
        ·
         simp only [Act.put, sp]
         rfl
        refine one_ (i := 8) (N := some 25) #[true,true,true,true,true,true,true,true,true,false] rfl rfl (one_of HT_.out (by kernel_rfl)) (by decide) (fun K hK => ?_)
        refine goes_ Try.func13 (by kernel_rfl) rfl #[.agg #[.bool ((J27 l0 x5_1).f0), .int .i64 ((J27 l0 x5_1).f1), .int .i64 ((J27 l0 x5_1).f2), .slice A268_3 ((J27 l0 x5_1).f3).length c268_3], .agg #[.bool ((J27 l1 x5_1).f0), .int .i64 ((J27 l1 x5_1).f1), .int .i64 ((J27 l1 x5_1).f2), .slice A269_3 ((J27 l1 x5_1).f3).length c269_3]] (by rfl) rfl rfl ags ?_
        with_reducible refine (larchref06_SameRet.calls k1 ((J27 l0 x5_1).f0) ((J27 l0 x5_1).f1) ((J27 l0 x5_1).f2) _ _ ((J27 l0 x5_1).f3) ((J27 l1 x5_1).f0) ((J27 l1 x5_1).f1) ((J27 l1 x5_1).f2) _ _ ((J27 l1 x5_1).f3) false _ ?side1 ?side2 ?side3 ?side4 A7.out).mono ?_
        (case side1 => exact skC (Kd.C_below HR268_3.out HB.out))
        (case side2 => exact HC268_3.out)
        (case side3 => exact skC (Kd.C_below HR269_3.out HB.out))
        (case side4 => exact HC269_3.out)
        rintro e w12 ⟨rfl, hb⟩
        refine ⟨_, rfl, ?_⟩
        have n0_ := asd (below_step (skB HB.out) hb)
        clear HB
        have HB := n0_
        clear n0_
        (try clear hb)
        (try clear hb2)
        (try clear hk)
        (try clear hi)
        refine hK.out _ _ ⟨(skc HB.out hw268_0), (skc HB.out hw268_1), (skc HB.out hw268_2), (skc HB.out hw268_3), (skc HB.out hw269_0), (skc HB.out hw269_1), (skc HB.out hw269_2), (skc HB.out hw269_3)⟩ (fun hHeld => ?_)
        clear hK K
        refine norm_ (a' := ?_) ?_ ?_
        rotate_left
        ·
         show Act.put _ (some 25) _ = _
         simp only [Act.put, sp]
         rfl
        refine pure_ (i := 9) (N := some 26) (v := ?_) (a' := ?_) #[true,true,true,true,true,true,true,true,true,true] rfl rfl (aK HT_.out) (fun _ _ _ h => h) (Or.inl ⟨by rfl, ?_⟩) ?_ ?_
        rotate_left
        ·
         intro w'
         go_simp
         with_reducible rfl
        rotate_left
        ·
         simp only [Act.put, sp]
         rfl
        refine done_ (done_of HT_.out (by kernel_rfl)) ?_
        try go_wp2
        go_ret
        exact ⟨re, skB HB.out⟩
      ·
       rw [if_neg c6] at H
       exact absurd H (by simp)
     ·
      rw [if_neg c5] at H
      exact absurd H (by simp)
    ·
     rw [if_neg c4] at H
     have c4b0 : decide (x5_1 < (l0.length : Int)) = false := decide_eq_false c4
     clear c4
     obtain rfl := Option.some.inj H
     go_wp2
     go_ret
     exact ⟨re, skB HB.out⟩
 ·
  rw [if_neg c3] at H
  have c3b0 : ((l0.length : Int) == (l1.length : Int)) = false := beq_eq_false_iff_ne.mpr c3
  have c3b1 : ((l0.length : Int) != (l1.length : Int)) = true := bne_iff_ne.mpr c3
  have c3b2 : (l0.length == l1.length) = false := by first | simpa using c3 | (simp at c3 ⊢; omega)
  obtain rfl := Option.some.inj H
  go_enter Try.func17, Try.ntmps17
  go_wp2
  go_ret
  exact ⟨re, skB HB.out⟩
end Go.Proofs.Ytanlnfcjdjamaaa.P
/- F38 -/
namespace Go.Proofs.Ytanlnfcjdjamaaa.P
open Go.RowKit Go.Proofs.YtanlnfcjdjamaaaW.PrintWords Go.Proofs.YtanlnfcjdjamaaaW.PrintLast Go.Proofs.YtanlnfcjdjamaaaW.PrintMore
attribute [local go_sem] max2_int min2_int max_two min_two max_three min_three max_four min_four   -- for this text's walks alone
set_option linter.unusedVariables false
set_option linter.unusedSimpArgs false
attribute [local go_sem high] eqA51
def api_Pair_49.l0 : Nat → List (S51) → List (S51) → Int → Int → Option (Bool)
 | 0, _, _, _, _ => none
 | k + 1, x0, x1, x12, x13 => if x13 < x12 then (if 0 ≤ x13 then (if x13 < (x0.length : Int) then (if x13 < (x1.length : Int) then (if (!(((J51 x0 x13).f0) == ((J51 x1 x13).f0)) || (!(((J51 x0 x13).f1) == ((J51 x1 x13).f1)))) = true then (some false) else (api_Pair_49.l0 k x0 x1 x12 (wrap64 (x13 + 1)))) else (none)) else (none)) else (none)) else (some true)
def api_Pair_49.f (k : Nat) (l0 : List (S51)) (l1 : List (S51)) : Option (Bool) := if (l0.length : Int) = (l1.length : Int) then (api_Pair_49.l0 k l0 l1 (l0.length : Int) 0) else (some false)
end Go.Proofs.Ytanlnfcjdjamaaa.P
/- F39 -/
namespace Go.Proofs.Ytanlnfcjdjamaaa.P
open Go.RowKit Go.Proofs.YtanlnfcjdjamaaaW.PrintWords Go.Proofs.YtanlnfcjdjamaaaW.PrintLast Go.Proofs.YtanlnfcjdjamaaaW.PrintMore
attribute [local go_sem] max2_int min2_int max_two min_two max_three min_three max_four min_four   -- for this text's walks alone
set_option linter.unusedVariables false
set_option linter.unusedSimpArgs false
def model_Same.f (k : Nat) (l0 : List (S51)) (l1 : List (S51)) : Option (Bool) := (api_Pair_49.f k l0 l1).bind fun t273 => (some t273)
end Go.Proofs.Ytanlnfcjdjamaaa.P
/- F40 -/
namespace Go.Proofs.Ytanlnfcjdjamaaa.P
open Go.RowKit Go.Proofs.YtanlnfcjdjamaaaW.PrintWords Go.Proofs.YtanlnfcjdjamaaaW.PrintLast Go.Proofs.YtanlnfcjdjamaaaW.PrintMore
attribute [local go_sem] max2_int min2_int max_two min_two max_three min_three max_four min_four   -- for this text's walks alone
set_option linter.unusedVariables false
set_option linter.unusedSimpArgs false
def model_SameRet.f (k : Nat) (a0_0 : Bool) (a0_1 : Int) (a0_2 : Int) (l0_3 : List (S51)) (a1_0 : Bool) (a1_1 : Int) (a1_2 : Int) (l1_3 : List (S51)) : Option (Bool) := if (a0_0 == a1_0) = true then (if a0_1 = a1_1 then (if a0_2 = a1_2 then ((model_Same.f k l0_3 l1_3).bind fun t276 => (some t276)) else (some false)) else (some false)) else (some false)
end Go.Proofs.Ytanlnfcjdjamaaa.P
/- F5 -/
namespace Go.Proofs.Ytanlnfcjdjamaaa.P
open Go.RowKit Go.Proofs.YtanlnfcjdjamaaaW.PrintWords Go.Proofs.YtanlnfcjdjamaaaW.PrintLast Go.Proofs.YtanlnfcjdjamaaaW.PrintMore
attribute [local go_sem] max2_int min2_int max_two min_two max_three min_three max_four min_four   -- for this text's walks alone
set_option linter.unusedVariables false
set_option linter.unusedSimpArgs false
def model_Changes.f (a0 : Int) : Option (Bool) := if a0 = 2 then (some true) else (if a0 = 3 then (some true) else (some (a0 == 4)))
set_option maxHeartbeats 8000000 in
set_option maxRecDepth 100000 in
theorem model_Changes.calls (a0 : Int) (r : Bool) (w : World) (h : model_Changes.f a0 = some r) :
  Calls Try.prog 23 #[.int .i64 a0] w fun e w' => e = .returned (.bool r) ∧ Drawn0 w w' := by
 have H : (if a0 = 2 then (some true) else (if a0 = 3 then (some true) else (some (a0 == 4)))) = some r := h
 clear h
 by_cases c2 : a0 = 2
 ·
  rw [if_pos c2] at H
  have c2b0 : (a0 == 2) = true := beq_iff_eq.mpr c2
  have c2b1 : (a0 != 2) = false := bne_eq_false_iff_eq.mpr c2
  clear c2
  obtain rfl := Option.some.inj H
  go_enter Try.func23, Try.ntmps23
  go_wp2
  go_ret
  exact ⟨by first | rfl | (simp; done) | (simp [*]; done), by repeat (first | exact Drawn0.refl _ | apply Drawn0.step)⟩
 ·
  rw [if_neg c2] at H
  have c2b0 : (a0 == 2) = false := beq_eq_false_iff_ne.mpr c2
  have c2b1 : (a0 != 2) = true := bne_iff_ne.mpr c2
  by_cases c3 : a0 = 3
  ·
   rw [if_pos c3] at H
   have c3b0 : (a0 == 3) = true := beq_iff_eq.mpr c3
   have c3b1 : (a0 != 3) = false := bne_eq_false_iff_eq.mpr c3
   clear c3
   obtain rfl := Option.some.inj H
   go_enter Try.func23, Try.ntmps23
   go_wp2
   go_ret
   exact ⟨by first | rfl | (simp; done) | (simp [*]; done), by repeat (first | exact Drawn0.refl _ | apply Drawn0.step)⟩
  ·
   rw [if_neg c3] at H
   have c3b0 : (a0 == 3) = false := beq_eq_false_iff_ne.mpr c3
   have c3b1 : (a0 != 3) = true := bne_iff_ne.mpr c3
   obtain rfl := Option.some.inj H
   go_enter Try.func23, Try.ntmps23
   go_wp2
   go_ret
   exact ⟨by first | rfl | (simp; done) | (simp [*]; done), by repeat (first | exact Drawn0.refl _ | apply Drawn0.step)⟩
end Go.Proofs.Ytanlnfcjdjamaaa.P
/- F29 -/
namespace Go.Proofs.Ytanlnfcjdjamaaa.P
open Go.RowKit Go.Proofs.YtanlnfcjdjamaaaW.PrintWords Go.Proofs.YtanlnfcjdjamaaaW.PrintLast Go.Proofs.YtanlnfcjdjamaaaW.PrintMore
attribute [local go_sem] max2_int min2_int max_two min_two max_three min_three max_four min_four   -- for this text's walks alone
set_option linter.unusedVariables false
set_option linter.unusedSimpArgs false
def larchref06_Kind.f (a0 : Int) : Option (Int) := if a0 < 1 then (some 5) else (if a0 > 9 then (some 5) else (some 0))
set_option maxHeartbeats 8000000 in
set_option maxRecDepth 100000 in
theorem larchref06_Kind.calls (a0 : Int) (r : Int) (w : World) (h : larchref06_Kind.f a0 = some r) :
  Calls Try.prog 31 #[.int .i64 a0] w fun e w' => e = .returned (.int .i64 r) ∧ Drawn0 w w' := by
 have H : (if a0 < 1 then (some 5) else (if a0 > 9 then (some 5) else (some 0))) = some r := h
 clear h
 by_cases c2 : a0 < 1
 ·
  rw [if_pos c2] at H
  have c2b0 : decide (a0 < 1) = true := decide_eq_true c2
  clear c2
  obtain rfl := Option.some.inj H
  go_enter Try.func31, Try.ntmps31
  go_wp2
  go_ret
  exact ⟨by first | rfl | (simp; done) | (simp [*]; done), by repeat (first | exact Drawn0.refl _ | apply Drawn0.step)⟩
 ·
  rw [if_neg c2] at H
  have c2b0 : decide (a0 < 1) = false := decide_eq_false c2
  clear c2
  by_cases c3 : a0 > 9
  ·
   rw [if_pos c3] at H
   have c3b0 : decide (9 < a0) = true := decide_eq_true c3
   clear c3
   obtain rfl := Option.some.inj H
   go_enter Try.func31, Try.ntmps31
   go_wp2
   go_ret
   exact ⟨by first | rfl | (simp; done) | (simp [*]; done), by repeat (first | exact Drawn0.refl _ | apply Drawn0.step)⟩
  ·
   rw [if_neg c3] at H
   have c3b0 : decide (9 < a0) = false := decide_eq_false c3
   clear c3
   obtain rfl := Option.some.inj H
   go_enter Try.func31, Try.ntmps31
   go_wp2
   go_ret
   exact ⟨by first | rfl | (simp; done) | (simp [*]; done), by repeat (first | exact Drawn0.refl _ | apply Drawn0.step)⟩
end Go.Proofs.Ytanlnfcjdjamaaa.P
/- F3 -/
namespace Go.Proofs.Ytanlnfcjdjamaaa.P
open Go.RowKit Go.Proofs.YtanlnfcjdjamaaaW.PrintWords Go.Proofs.YtanlnfcjdjamaaaW.PrintLast Go.Proofs.YtanlnfcjdjamaaaW.PrintMore
attribute [local go_sem] max2_int min2_int max_two min_two max_three min_three max_four min_four   -- for this text's walks alone
set_option linter.unusedVariables false
set_option linter.unusedSimpArgs false
def model_Kind.f (a0 : Int) : Option (Int) := if a0 < 1 then (some 5) else (if a0 > 9 then (some 5) else (some 0))
set_option maxHeartbeats 8000000 in
set_option maxRecDepth 100000 in
theorem model_Kind.calls (a0 : Int) (r : Int) (w : World) (h : model_Kind.f a0 = some r) :
  Calls Try.prog 22 #[.int .i64 a0] w fun e w' => e = .returned (.int .i64 r) ∧ Drawn0 w w' := by
 have H : (if a0 < 1 then (some 5) else (if a0 > 9 then (some 5) else (some 0))) = some r := h
 clear h
 by_cases c2 : a0 < 1
 ·
  rw [if_pos c2] at H
  have c2b0 : decide (a0 < 1) = true := decide_eq_true c2
  clear c2
  obtain rfl := Option.some.inj H
  go_enter Try.func22, Try.ntmps22
  go_wp2
  go_ret
  exact ⟨by first | rfl | (simp; done) | (simp [*]; done), by repeat (first | exact Drawn0.refl _ | apply Drawn0.step)⟩
 ·
  rw [if_neg c2] at H
  have c2b0 : decide (a0 < 1) = false := decide_eq_false c2
  clear c2
  by_cases c3 : a0 > 9
  ·
   rw [if_pos c3] at H
   have c3b0 : decide (9 < a0) = true := decide_eq_true c3
   clear c3
   obtain rfl := Option.some.inj H
   go_enter Try.func22, Try.ntmps22
   go_wp2
   go_ret
   exact ⟨by first | rfl | (simp; done) | (simp [*]; done), by repeat (first | exact Drawn0.refl _ | apply Drawn0.step)⟩
  ·
   rw [if_neg c3] at H
   have c3b0 : decide (9 < a0) = false := decide_eq_false c3
   clear c3
   obtain rfl := Option.some.inj H
   go_enter Try.func22, Try.ntmps22
   go_wp2
   go_ret
   exact ⟨by first | rfl | (simp; done) | (simp [*]; done), by repeat (first | exact Drawn0.refl _ | apply Drawn0.step)⟩
end Go.Proofs.Ytanlnfcjdjamaaa.P
/- F52 -/
namespace Go.Proofs.Ytanlnfcjdjamaaa.P
open Go.RowKit Go.Proofs.YtanlnfcjdjamaaaW.PrintWords Go.Proofs.YtanlnfcjdjamaaaW.PrintLast Go.Proofs.YtanlnfcjdjamaaaW.PrintMore
attribute [local go_sem] max2_int min2_int max_two min_two max_three min_three max_four min_four   -- for this text's walks alone
set_option linter.unusedVariables false
set_option linter.unusedSimpArgs false
def larchref06_Of.l0 : Nat → List (S51) → List (S51) → Int → Option ((List (S51)))
 | 0, _, _, _ => none
 | k + 1, x0, x3, x4 => if x4 < (x0.length : Int) then (if 0 ≤ x4 then ((larchref06_with.f k x3 ((J51 x0 x4).f0) ((J51 x0 x4).f1) false).bind fun t404 => (larchref06_Of.l0 k x0 t404 (wrap64 (x4 + 1)))) else (none)) else (some x3)
def larchref06_Of.f (k : Nat) (l0 : List (S51)) : Option ((List (S51))) := larchref06_Of.l0 k l0 ([] : List (S51)) 0
def larchref06_Of.T5 : Bool × List (List Nat × List Nat) := (true, [([], []), ([], []), ([], []), ([1, 2], [1, 2]), ([3], [3]), ([4], [4]), ([], []), ([], []), ([6, 7], [6, 7]), ([8], [8]), ([9], [9]), ([0, 5, 10], [0, 5, 10]), ([11, 11, 0, 1, 2, 3, 4, 5, 6, 7, 8, 9, 10, 11], [0, 11])])
def larchref06_Of.B5 : List Nat := [0, 0, 0, 6, 14, 30, 0, 0, 192, 448, 960, 2047, 4095]
theorem larchref06_Of.tab5 : rtab .any (opsOf Try.f26 5) = larchref06_Of.T5 := by kernel_rfl
theorem larchref06_Of.bits5 : waitsOk larchref06_Of.T5.2 larchref06_Of.B5 = true := by kernel_rfl
set_option maxHeartbeats 8000000 in
set_option maxRecDepth 100000 in
theorem larchref06_Of.calls (k : Nat) (A0 : Option Addr) (c0 : Nat) (l0 : List (S51)) (r : List (S51)) (w : World) (hr0 : Kd.C k51 w A0 l0.length l0) (hc0 : l0.length ≤ c0) (h : larchref06_Of.f k l0 = some r) :
  Calls Try.prog 26 #[.slice A0 l0.length c0] w fun e w' => ∃ v0_ : Value, e = .returned (v0_) ∧ Kd.R k51 51 w' w.heap.size (fun _ => True) v0_ r ∧ Below w.heap.size w w' := by
 have HR0 := asd hr0
 have HC0 := asd hc0
 clear hr0 hc0
 have HB := asd (Below.refl w.heap.size w)
 have H : (larchref06_Of.l0 k l0 ([] : List (S51)) 0) = some r := h
 clear h
 have H' := asd H
 clear H
 go_enter Try.func26, Try.ntmps26
 go_wp2
 go_loopg [3, 4] k (fun kq v3 v4 w' => ∃ (x3_1 : List (S51)) (x4_1 : Int), v4 = .int .i64 x4_1 ∧ Aside0 (larchref06_Of.l0 kq l0 x3_1 x4_1 = some r) ∧ Aside0 (kq ≤ k) ∧ Aside0 (Kd.R k51 51 w' w.heap.size (fun _ => True) v3 x3_1) ∧ Aside0 (Below w.heap.size w w'))
 case atStart => exact ⟨(([] : List (S51))), (0), rs, H', ⟨Nat.le_refl _⟩, ⟨by first | exact Kd.R_nil _ _ _ _ _ | exact Kd.N_nil _ _ _ _ _ | exact Kd.V_nil _ _ _ _ _ | exact Kd.Q_nil _ _ _ _ _ | exact Kd.S_nil _ _ _ _ _⟩, ⟨skB HB.out⟩⟩
 case round =>
  clear H'
  obtain ⟨x3_1, x4_1, rfl, HA, HK1, HO_3, HB⟩ := hrel
  cases gk with
  | zero => exact absurd HA.out (by simp [larchref06_Of.l0])
  | succ k1 =>
   have H := HA.out
   clear HA
   simp only [larchref06_Of.l0] at H
   by_cases c2 : x4_1 < (l0.length : Int)
   ·
    rw [if_pos c2] at H
    have c2b0 : decide (x4_1 < (l0.length : Int)) = true := decide_eq_true c2
    clear c2
    by_cases c3 : 0 ≤ x4_1
    ·
     rw [if_pos c3] at H
     have c3b0 : decide (0 ≤ x4_1) = true := decide_eq_true c3
     clear c3
     replace H := Option.bind_eq_some_iff.mp H
     obtain ⟨t404, A40, H⟩ := H
     replace H : (larchref06_Of.l0 k1 l0 t404 (wrap64 (x4_1 + 1))) = some r := H
     have A4 := asd A40
     clear A40
     have H' := asd H
     clear H
     try go_wp2
     have n0_ := asd (Kd.R_drew HO_3.out)
     have n1_ := asd (below_drew1 HB.out)
     clear HO_3
     clear HB
     have HO_3 := n0_
     have HB := n1_
     clear n0_ n1_
     have p402 : 0 ≤ (x4_1 : Int) := dt
     have q402 : x4_1 < (l0.length : Int) := dt
     obtain ⟨ad402, e402, hx402_0, hx402_1⟩ := at_T51 HR0.out x4_1 p402 q402
     have hw402_1 := hx402_1
     have hw402_0 := hx402_0
     cases e402
     replace hx402_0 := skc HB.out hx402_0
     replace hx402_1 := skc HB.out hx402_1
     replace p402 := eq_true p402
     replace q402 := eq_true q402
     have p403 : 0 ≤ (x4_1 : Int) := dt
     have q403 : x4_1 < (l0.length : Int) := dt
     obtain ⟨ad403, e403, hx403_0, hx403_1⟩ := at_T51 HR0.out x4_1 p403 q403
     have hw403_1 := hx403_1
     have hw403_0 := hx403_0
     obtain rfl : ad402 = ad403 := (by injection e403)
     replace hx403_0 := skc HB.out hx403_0
     replace hx403_1 := skc HB.out hx403_1
     replace p403 := eq_true p403
     replace q403 := eq_true q403
     obtain ⟨Ao6, co6, eo6⟩ := Kd.R_slice HO_3.out
     (first | subst eo6 | (injection eo6 with f1_ f2_ f3_; have f4_ := f1_.symm; have f5_ := f3_.symm; clear f1_ f2_ f3_; subst f4_; subst f5_))
     refine start_ (n := 13) (S := fun w' => w'.cell? (ad402.add ((x4_1).toNat * 2)) = some (.int .i64 ((J51 l0 x4_1).f0)) ∧ w'.cell? ⟨(ad402.add ((x4_1).toNat * 2)).block, (ad402.add ((x4_1).toNat * 2)).off + 1, none⟩ = some (.int .i64 ((J51 l0 x4_1).f1)) ∧ w'.cell? (ad402.add ((x4_1).toNat * 2)) = some (.int .i64 ((J51 l0 x4_1).f0)) ∧ w'.cell? ⟨(ad402.add ((x4_1).toNat * 2)).block, (ad402.add ((x4_1).toNat * 2)).off + 1, none⟩ = some (.int .i64 ((J51 l0 x4_1).f1))) (ds := []) #[false,false,false,false,false,false,false,false,false,false,false,false,false] (by kernel_rfl) rfl rfl ⟨(skc HB.out hw402_0), (skc HB.out hw402_1), (skc HB.out hw403_0), (skc HB.out hw403_1)⟩ (fun hHeld => ?_); refine with_tabW larchref06_Of.tab5 larchref06_Of.bits5 (fun HT_ HW_ => ?_)
     generalize wr.drew = w5 at HO_3 HB hx402_0 hx402_1 hx403_0 hx403_1 hHeld ⊢
     refine pure_ (i := 0) (N := some 11) (v := ?_) (a' := ?_) #[true,false,false,false,false,false,false,false,false,false,false,false,false] rfl rfl (aK HT_.out) (fun _ _ _ h => h) (Or.inl ⟨by rfl, ?_⟩) ?_ ?_
     rotate_left
     ·
      intro w'
      go_simp
      with_reducible rfl
     rotate_left
     ·
      simp only [Act.put, sp]
      rfl
     refine pure_ (i := 1) (N := some 12) (v := ?_) (a' := ?_) #[true,true,false,false,false,false,false,false,false,false,false,false,false] rfl rfl (aK HT_.out) (fun _ _ _ h => h) (Or.inl ⟨by rfl, ?_⟩) ?_ ?_
     rotate_left
     ·
      intro w'
      go_simp
      with_reducible rfl
     rotate_left
     ·
      simp only [Act.put, sp]
      rfl
     refine pure_ (i := 2) (N := some 13) (v := ?_) (a' := ?_) #[true,true,true,false,false,false,false,false,false,false,false,false,false] rfl rfl (aK HT_.out) (fun _ _ _ h => h) (Or.inl ⟨by rfl, ?_⟩) ?_ ?_
     rotate_left
     ·
      intro w'
      go_simp
      with_reducible rfl
     rotate_left
     ·
      simp only [Act.put, sp]
      rfl
     refine pure_ (i := 3) (N := some 14) (v := ?_) (a' := ?_) #[true,true,true,true,false,false,false,false,false,false,false,false,false] rfl rfl (aK HT_.out) (fun _ _ _ h => h) (Or.inl ⟨by rfl, ?_⟩) ?_ ?_
     rotate_left
     ·
      intro w'
      go_simp
      with_reducible rfl
     rotate_left
     ·
      simp only [Act.put, sp]
      rfl
     refine pure_ (i := 4) (N := some 15) (v := ?_) (a' := ?_) #[true,true,true,true,true,false,false,false,false,false,false,false,false] rfl rfl (aK HT_.out) (fun _ _ _ h => h) (Or.inl ⟨by rfl, ?_⟩) ?_ ?_
     rotate_left
     ·
      intro w'
      go_simp
      with_reducible rfl
     rotate_left
     ·
      simp only [Act.put, sp]
      rfl
     refine pure_ (i := 6) (N := some 17) (v := ?_) (a' := ?_) #[true,true,true,true,true,false,true,false,false,false,false,false,false] rfl rfl (aK HT_.out) (fun _ _ _ h => h) (Or.inl ⟨by rfl, ?_⟩) ?_ ?_
     rotate_left
     ·
      intro w'
      go_simp
      with_reducible rfl
     rotate_left
     ·
      simp only [Act.put, sp]
      rfl
     refine pure_ (i := 7) (N := some 18) (v := ?_) (a' := ?_) #[true,true,true,true,true,false,true,true,false,false,false,false,false] rfl rfl (aK HT_.out) (fun _ _ _ h => h) (Or.inl ⟨by rfl, ?_⟩) ?_ ?_
     rotate_left
     ·
      intro w'
      go_simp
      with_reducible rfl
     rotate_left
     ·
      simp only [Act.put, sp]
      rfl
     refine pure_ (i := 8) (N := some 19) (v := ?_) (a' := ?_) #[true,true,true,true,true,false,true,true,true,false,false,false,false] rfl rfl (aK HT_.out) (fun _ _ _ h => h) (Or.inl ⟨by rfl, ?_⟩) ?_ ?_
     rotate_left
     ·
      intro w'
      go_simp
      with_reducible rfl
     rotate_left
     ·
      simp only [Act.put, sp]
      rfl
     refine pure_ (i := 9) (N := some 20) (v := ?_) (a' := ?_) #[true,true,true,true,true,false,true,true,true,true,false,false,false] rfl rfl (aK HT_.out) (fun _ _ _ h => h) (Or.inl ⟨by rfl, ?_⟩) ?_ ?_
     rotate_left
     ·
      intro w'
      go_simp
      with_reducible rfl
     rotate_left
     ·
      simp only [Act.put, sp]
      rfl
     refine take_ (i := 5) (N := some 16) (v := ?_) (a' := ?_) #[true,true,true,true,true,true,true,true,true,true,false,false,false] rfl rfl (take_ofW HT_.out HW_.out (by kernel_rfl)) (fun _ _ _ h => h) (Or.inl ⟨by rfl, ?_⟩) hHeld ?_ ?_
     rotate_left
     ·
      rintro w' ⟨s0, s1, s2, s3⟩
      go_simp
      with_reducible rfl
     rotate_left
     ·
      simp only [Act.put, sp]
      rfl
     refine take_ (i := 10) (N := some 21) (v := ?_) (a' := ?_) #[true,true,true,true,true,true,true,true,true,true,true,false,false] rfl rfl (take_ofW HT_.out HW_.out (by kernel_rfl)) (fun _ _ _ h => h) (Or.inl ⟨by rfl, ?_⟩) hHeld ?_ ?_
     rotate_left
     ·
      rintro w' ⟨s0, s1, s2, s3⟩
      go_simp
      with_reducible rfl
     rotate_left
     ·
      simp only [Act.put, sp]
      rfl
     refine one_ (i := 11) (N := some 22) #[true,true,true,true,true,true,true,true,true,true,true,true,false] rfl rfl (one_of HT_.out (by kernel_rfl)) (by decide) (fun K hK => ?_)
     refine goes_ Try.func45 (by kernel_rfl) rfl #[.slice Ao6 x3_1.length co6, .int .i64 ((J51 l0 x4_1).f0), .int .i64 ((J51 l0 x4_1).f1), .bool false] (by rfl) rfl rfl ags ?_
     with_reducible refine (larchref06_with.calls k1 _ _ x3_1 ((J51 l0 x4_1).f0) ((J51 l0 x4_1).f1) false t404 _ ?side1 ?side2 A4.out).mono ?_
     (case side1 => exact skC (Kd.R_reads' HO_3.out).2.2)
     (case side2 => exact (Kd.R_reads' HO_3.out).2.1)
     rintro e w7 ⟨v405, rfl, ho0, hb⟩
     refine ⟨_, rfl, ?_⟩
     have n0_ := asd (Kd.R_elder' (skR HO_3.out) (Kd.R_base ho0) hb)
     have n1_ := asd (Kd.R_lower (Kd.R_new' ho0 (Kd.R_lt (skR HO_3.out))) (below_size (skB HB.out)))
     have n2_ := asd (below_step (skB HB.out) hb)
     clear HO_3
     clear HB
     have HO_3 := n0_
     have HO406 := n1_
     have HB := n2_
     clear n0_ n1_ n2_
     (try clear hb)
     (try clear hb2)
     (try clear hk)
     (try clear hi)
     (try clear ho0)
     refine hK.out _ _ ⟨(skc HB.out hw402_0), (skc HB.out hw402_1), (skc HB.out hw403_0), (skc HB.out hw403_1)⟩ (fun hHeld => ?_)
     clear hK K
     refine norm_ (a' := ?_) ?_ ?_
     rotate_left
     ·
      show Act.put _ (some 22) _ = _
      simp only [Act.put, sp]
      rfl
     refine pure_ (i := 12) (N := some 3) (v := ?_) (a' := ?_) #[true,true,true,true,true,true,true,true,true,true,true,true,true] rfl rfl (aK HT_.out) (fun _ _ _ h => h) (Or.inl ⟨by rfl, ?_⟩) ?_ ?_
     rotate_left
     ·
      intro w'
      go_simp
      with_reducible rfl
     rotate_left
     ·
      simp only [Act.put, sp]
      rfl
     refine done_ (done_of HT_.out (by kernel_rfl)) ?_
     try go_wp2
     go_roundg k1
     case measure => have := HK1.out; omega
     case rel => exact ⟨(t404), (wrap64 (x4_1 + 1)), rs, H', ⟨by have := HK1.out; omega⟩, ⟨skR (Kd.R_mono HO406.out (fun _ hk => trivial))⟩, ⟨skB HB.out⟩⟩
    ·
     rw [if_neg c3] at H
     exact absurd H (by simp)
   ·
    rw [if_neg c2] at H
    have c2b0 : decide (x4_1 < (l0.length : Int)) = false := decide_eq_false c2
    clear c2
    obtain rfl := Option.some.inj H
    go_wp2
    go_ret
    exact ⟨_, re, skR HO_3.out, skB HB.out⟩
end Go.Proofs.Ytanlnfcjdjamaaa.P
/- F51 -/
namespace Go.Proofs.Ytanlnfcjdjamaaa.P
open Go.RowKit Go.Proofs.YtanlnfcjdjamaaaW.PrintWords Go.Proofs.YtanlnfcjdjamaaaW.PrintLast Go.Proofs.YtanlnfcjdjamaaaW.PrintMore
attribute [local go_sem] max2_int min2_int max_two min_two max_three min_three max_four min_four   -- for this text's walks alone
set_option linter.unusedVariables false
set_option linter.unusedSimpArgs false
def larchref06_Part.f (k : Nat) (l0 : List (S51)) (a1 : Int) (a2 : Int) : Option ((List (S51)) × Int) := (larchref06_Check.f k l0).bind fun t398 => (if t398 = 0 then ((larchref06_Inside.f k l0 a1 a2).bind fun t399 => (some (t399, 0))) else (some (([] : List (S51)), 11)))
set_option maxHeartbeats 8000000 in
set_option maxRecDepth 100000 in
theorem larchref06_Part.calls (k : Nat) (A0 : Option Addr) (c0 : Nat) (l0 : List (S51)) (a1 : Int) (a2 : Int) (r1 : List (S51)) (r2 : Int) (w : World) (hr0 : Kd.C k51 w A0 l0.length l0) (hc0 : l0.length ≤ c0) (h : larchref06_Part.f k l0 a1 a2 = some (r1, r2)) :
  Calls Try.prog 25 #[.slice A0 l0.length c0, .int .i64 a1, .int .i64 a2] w fun e w' => ∃ v0_ : Value, e = .returned (.tuple #[v0_, .int .i64 r2]) ∧ Kd.R k51 51 w' w.heap.size (fun _ => True) v0_ r1 ∧ Below w.heap.size w w' := by
 have HR0 := asd hr0
 have HC0 := asd hc0
 clear hr0 hc0
 have HB := asd (Below.refl w.heap.size w)
 have H : ((larchref06_Check.f k l0).bind fun t398 => (if t398 = 0 then ((larchref06_Inside.f k l0 a1 a2).bind fun t399 => (some (t399, 0))) else (some (([] : List (S51)), 11)))) = some (r1, r2) := h
 clear h
 replace H := Option.bind_eq_some_iff.mp H
 obtain ⟨t398, A40, H⟩ := H
 replace H : (if t398 = 0 then ((larchref06_Inside.f k l0 a1 a2).bind fun t399 => (some (t399, 0))) else (some (([] : List (S51)), 11))) = some (r1, r2) := H
 have A4 := asd A40
 clear A40
 by_cases c5 : t398 = 0
 ·
  rw [if_pos c5] at H
  have c5b0 : (t398 == 0) = true := beq_iff_eq.mpr c5
  have c5b1 : (t398 != 0) = false := bne_eq_false_iff_eq.mpr c5
  clear c5
  replace H := Option.bind_eq_some_iff.mp H
  obtain ⟨t399, A60, H⟩ := H
  replace H : (some (t399, 0)) = some (r1, r2) := H
  have A6 := asd A60
  clear A60
  simp only [Option.some.injEq, Prod.mk.injEq] at H
  obtain ⟨rfl, rfl⟩ := H
  go_enter Try.func25, Try.ntmps25
  go_wp2_with (first | ((with_reducible refine gate_callee (f := 30) rfl ?_); refine goesL_ (some 9) rfl rfl Try.func30 (by kernel_rfl) rfl #[.slice A0 l0.length c0] rfl ags ?_; (with_reducible refine (larchref06_Check.calls k _ _ l0 t398 _ ?side1 ?side2 A4.out).mono ?_); (case side1 => exact skC HR0.out); (case side2 => exact HC0.out); rintro e w' ⟨rfl, ⟨nd, rfl⟩⟩; refine ⟨_, rfl, ?_⟩) | ((with_reducible refine gate_callee (f := 44) rfl ?_); refine goesL_ (some 14) rfl rfl Try.func44 (by kernel_rfl) rfl #[.slice A0 l0.length c0, .int .i64 a1, .int .i64 a2] rfl ags ?_; (with_reducible refine (larchref06_Inside.calls k _ _ l0 a1 a2 t399 _ ?side1 ?side2 A6.out).mono ?_); (case side1 => exact skC HR0.out); (case side2 => exact HC0.out); rintro e w7 ⟨v400, rfl, ho0, hb⟩; refine ⟨_, rfl, ?_⟩; have n0_ := asd (Kd.R_lower ho0 (below_size (skB HB.out))); have n1_ := asd (below_step (skB HB.out) hb); clear HB; have HO401 := n0_; have HB := n1_; clear n0_ n1_; (try clear hb); (try clear hb2); (try clear hk); (try clear hi); (try clear ho0)))
  go_ret2
  exact ⟨_, re, skR HO401.out, skB HB.out⟩
 ·
  rw [if_neg c5] at H
  have c5b0 : (t398 == 0) = false := beq_eq_false_iff_ne.mpr c5
  have c5b1 : (t398 != 0) = true := bne_iff_ne.mpr c5
  simp only [Option.some.injEq, Prod.mk.injEq] at H
  obtain ⟨rfl, rfl⟩ := H
  go_enter Try.func25, Try.ntmps25
  go_wp2_with (first | ((with_reducible refine gate_callee (f := 30) rfl ?_); refine goesL_ (some 9) rfl rfl Try.func30 (by kernel_rfl) rfl #[.slice A0 l0.length c0] rfl ags ?_; (with_reducible refine (larchref06_Check.calls k _ _ l0 t398 _ ?side1 ?side2 A4.out).mono ?_); (case side1 => exact skC HR0.out); (case side2 => exact HC0.out); rintro e w' ⟨rfl, ⟨nd, rfl⟩⟩; refine ⟨_, rfl, ?_⟩))
  go_ret2
  exact ⟨_, re, by first | exact Kd.R_nil _ _ _ _ _ | exact Kd.N_nil _ _ _ _ _ | exact Kd.V_nil _ _ _ _ _ | exact Kd.Q_nil _ _ _ _ _ | exact Kd.S_nil _ _ _ _ _, skB HB.out⟩
end Go.Proofs.Ytanlnfcjdjamaaa.P
/- F54 -/
namespace Go.Proofs.Ytanlnfcjdjamaaa.P
open Go.RowKit Go.Proofs.YtanlnfcjdjamaaaW.PrintWords Go.Proofs.YtanlnfcjdjamaaaW.PrintLast Go.Proofs.YtanlnfcjdjamaaaW.PrintMore
attribute [local go_sem] max2_int min2_int max_two min_two max_three min_three max_four min_four   -- for this text's walks alone
set_option linter.unusedVariables false
set_option linter.unusedSimpArgs false
mutual
def model_Differ.j0 : Nat → List (S51) → List (S51) → Bool → Option (List Int × Int)
 | 0, _, _, _ => none
 | k + 1, x0, x1, x14 => if x14 = true then (some (([] : List Int), 11)) else (model_Differ.l0 k x0 x1 ([] : List Int))
def model_Differ.l0 : Nat → List (S51) → List (S51) → List Int → Option (List Int × Int)
 | 0, _, _, _ => none
 | k + 1, x0, x1, x6 => if (x0.length : Int) > 0 then (model_Differ.j2 k x0 x1 x6 true) else (model_Differ.j2 k x0 x1 x6 (decide ((x1.length : Int) > 0)))
def model_Differ.j2 : Nat → List (S51) → List (S51) → List Int → Bool → Option (List Int × Int)
 | 0, _, _, _, _ => none
 | k + 1, x0, x1, x6, x22 => if x22 = true then (if (x1.length : Int) = 0 then (model_Differ.j3 k x0 x1 x6 true) else (if (x0.length : Int) > 0 then (if 0 < (x0.length : Int) then (if 0 < (x1.length : Int) then (model_Differ.j3 k x0 x1 x6 (decide (((J51 x0 0).f0) < ((J51 x1 0).f0)))) else (none)) else (none)) else (model_Differ.j3 k x0 x1 x6 false))) else (some (x6, 0))
def model_Differ.j3 : Nat → List (S51) → List (S51) → List Int → Bool → Option (List Int × Int)
 | 0, _, _, _, _ => none
 | k + 1, x0, x1, x6, x43 => if x43 = true then (if 0 < (x0.length : Int) then (if x6.length < 17592186044416 then (if 1 ≤ (x0.length : Int) then (model_Differ.l0 k (x0.drop 1) x1 (x6 ++ [(J51 x0 0).f0])) else (none)) else (none)) else (none)) else (if (x0.length : Int) = 0 then (model_Differ.j4 k x0 x1 x6 true) else (if 0 < (x1.length : Int) then (if 0 < (x0.length : Int) then (model_Differ.j4 k x0 x1 x6 (decide (((J51 x1 0).f0) < ((J51 x0 0).f0)))) else (none)) else (none)))
def model_Differ.j4 : Nat → List (S51) → List (S51) → List Int → Bool → Option (List Int × Int)
 | 0, _, _, _, _ => none
 | k + 1, x0, x1, x6, x72 => if x72 = true then (if 0 < (x1.length : Int) then (if x6.length < 17592186044416 then (if 1 ≤ (x1.length : Int) then (model_Differ.l0 k x0 (x1.drop 1) (x6 ++ [(J51 x1 0).f0])) else (none)) else (none)) else (none)) else (if 0 < (x0.length : Int) then (if 0 < (x1.length : Int) then (if ((J51 x0 0).f1) = ((J51 x1 0).f1) then (if 1 ≤ (x0.length : Int) then (if 1 ≤ (x1.length : Int) then (model_Differ.l0 k (x0.drop 1) (x1.drop 1) x6) else (none)) else (none)) else (if x6.length < 17592186044416 then (if 1 ≤ (x0.length : Int) then (if 1 ≤ (x1.length : Int) then (model_Differ.l0 k (x0.drop 1) (x1.drop 1) (x6 ++ [(J51 x0 0).f0])) else (none)) else (none)) else (none))) else (none)) else (none))
end
def model_Differ.f (k : Nat) (l0 : List (S51)) (l1 : List (S51)) : Option (List Int × Int) := (model_Check.f k l0).bind fun t411 => (if t411 = 0 then ((model_Check.f k l1).bind fun t412 => (model_Differ.j0 k l0 l1 (t412 != 0))) else (model_Differ.j0 k l0 l1 true))
set_option maxHeartbeats 8000000 in
set_option maxRecDepth 100000 in
theorem model_Differ.calls (k : Nat) (P0_ : Nat → Prop) (A0 : Option Addr) (c0 : Nat) (l0 : List (S51)) (P1_ : Nat → Prop) (A1 : Option Addr) (c1 : Nat) (l1 : List (S51)) (r1 : List Int) (r2 : Int) (w : World) (hs0 : Kd.V k51 51 w w.heap.size (fun k_ => P0_ k_) (.slice A0 l0.length c0) l0) (hs1 : Kd.V k51 51 w w.heap.size (fun k_ => P1_ k_) (.slice A1 l1.length c1) l1) (h : model_Differ.f k l0 l1 = some (r1, r2)) :
  Calls Try.prog 28 #[.slice A0 l0.length c0, .slice A1 l1.length c1] w fun e w' => ∃ v0_ : Value, e = .returned (.tuple #[v0_, .int .i64 r2]) ∧ Kd.R (Kd.int .i64) 3 w' w.heap.size (fun k_ => (w.heap.size ≤ k_)) v0_ r1 ∧ Below w.heap.size w w' := by
 have HO0 := asd (show Kd.V k51 51 w w.heap.size (fun k_ => ((P0_ k_ ∨ P1_ k_) ∨ w.heap.size ≤ k_)) (.slice A0 l0.length c0) l0 from Kd.V_mono hs0 (fun k_ hk => .inl (.inl hk)))
 have HO1 := asd (show Kd.V k51 51 w w.heap.size (fun k_ => ((P0_ k_ ∨ P1_ k_) ∨ w.heap.size ≤ k_)) (.slice A1 l1.length c1) l1 from Kd.V_mono hs1 (fun k_ hk => .inl (.inr hk)))
 have HB := asd (Below.refl w.heap.size w)
 have H : ((model_Check.f k l0).bind fun t411 => (if t411 = 0 then ((model_Check.f k l1).bind fun t412 => (model_Differ.j0 k l0 l1 (t412 != 0))) else (model_Differ.j0 k l0 l1 true))) = some (r1, r2) := h
 clear h
 have HC3 := asd H
 clear H
 go_enter Try.func28, Try.ntmps28
 go_upto_region 1 with (fail)
 repeat (go_quiet (fail); go_upto_region 1 with (fail))
 go_cut [14] (fun v14 wc => ∃ (kq : Nat) (x14_2 : Bool), v14 = .bool x14_2 ∧ Aside0 (model_Differ.j0 kq l0 l1 x14_2 = some (r1, r2)) ∧ Aside0 (kq ≤ k) ∧ Aside0 (Kd.V k51 51 wc w.heap.size (fun k_ => ((P0_ k_ ∨ P1_ k_) ∨ w.heap.size ≤ k_)) (.slice A0 l0.length c0) l0) ∧ Aside0 (Kd.V k51 51 wc w.heap.size (fun k_ => ((P0_ k_ ∨ P1_ k_) ∨ w.heap.size ≤ k_)) (.slice A1 l1.length c1) l1) ∧ Aside0 (Below w.heap.size w wc))
 case first =>
  have H := HC3.out
  clear HC3
  replace H := Option.bind_eq_some_iff.mp H
  obtain ⟨t411, A40, H⟩ := H
  replace H : (if t411 = 0 then ((model_Check.f k l1).bind fun t412 => (model_Differ.j0 k l0 l1 (t412 != 0))) else (model_Differ.j0 k l0 l1 true)) = some (r1, r2) := H
  have A4 := asd A40
  clear A40
  by_cases c5 : t411 = 0
  ·
   rw [if_pos c5] at H
   have c5b0 : (t411 == 0) = true := beq_iff_eq.mpr c5
   have c5b1 : (t411 != 0) = false := bne_eq_false_iff_eq.mpr c5
   clear c5
   (first | rw [c5b0] | (simp only [i64_w, i32_w]; rw [c5b0]) | skip)
   replace H := Option.bind_eq_some_iff.mp H
   obtain ⟨t412, A60, H⟩ := H
   replace H : (model_Differ.j0 k l0 l1 (t412 != 0)) = some (r1, r2) := H
   have A6 := asd A60
   clear A60
   have H' := asd H
   clear H
   go_wp2_with (first | (go_at_call 21; (with_reducible refine (model_Check.calls k _ _ l0 t411 _ ?side1 ?side2 A4.out).mono ?_); (case side1 => exact skC (Kd.V_reads' HO0.out).2.2); (case side2 => exact (Kd.V_reads' HO0.out).2.1); rintro e w' ⟨rfl, ⟨nd, rfl⟩⟩; (try first | exact ⟨rfl, _, World.drewN_drewN _ _ _⟩ | exact ⟨rfl, _, Eq.trans (World.drewN_drewN _ _ _) (congrArg (World.drewN _) (Nat.add_assoc _ _ _))⟩)) | (go_at_call 21; (with_reducible refine (model_Check.calls k _ _ l1 t412 _ ?side1 ?side2 A6.out).mono ?_); (case side1 => exact skC (Kd.V_reads' HO1.out).2.2); (case side2 => exact (Kd.V_reads' HO1.out).2.1); rintro e w' ⟨rfl, ⟨nd, rfl⟩⟩; (try first | exact ⟨rfl, _, World.drewN_drewN _ _ _⟩ | exact ⟨rfl, _, Eq.trans (World.drewN_drewN _ _ _) (congrArg (World.drewN _) (Nat.add_assoc _ _ _))⟩)))
   repeat (go_quiet (first | (go_at_call 21; (with_reducible refine (model_Check.calls k _ _ l0 t411 _ ?side1 ?side2 A4.out).mono ?_); (case side1 => exact skC (Kd.V_reads' HO0.out).2.2); (case side2 => exact (Kd.V_reads' HO0.out).2.1); rintro e w' ⟨rfl, ⟨nd, rfl⟩⟩; (try first | exact ⟨rfl, _, World.drewN_drewN _ _ _⟩ | exact ⟨rfl, _, Eq.trans (World.drewN_drewN _ _ _) (congrArg (World.drewN _) (Nat.add_assoc _ _ _))⟩)) | (go_at_call 21; (with_reducible refine (model_Check.calls k _ _ l1 t412 _ ?side1 ?side2 A6.out).mono ?_); (case side1 => exact skC (Kd.V_reads' HO1.out).2.2); (case side2 => exact (Kd.V_reads' HO1.out).2.1); rintro e w' ⟨rfl, ⟨nd, rfl⟩⟩; (try first | exact ⟨rfl, _, World.drewN_drewN _ _ _⟩ | exact ⟨rfl, _, Eq.trans (World.drewN_drewN _ _ _) (congrArg (World.drewN _) (Nat.add_assoc _ _ _))⟩))); try go_wp2_with (first | (go_at_call 21; (with_reducible refine (model_Check.calls k _ _ l0 t411 _ ?side1 ?side2 A4.out).mono ?_); (case side1 => exact skC (Kd.V_reads' HO0.out).2.2); (case side2 => exact (Kd.V_reads' HO0.out).2.1); rintro e w' ⟨rfl, ⟨nd, rfl⟩⟩; (try first | exact ⟨rfl, _, World.drewN_drewN _ _ _⟩ | exact ⟨rfl, _, Eq.trans (World.drewN_drewN _ _ _) (congrArg (World.drewN _) (Nat.add_assoc _ _ _))⟩)) | (go_at_call 21; (with_reducible refine (model_Check.calls k _ _ l1 t412 _ ?side1 ?side2 A6.out).mono ?_); (case side1 => exact skC (Kd.V_reads' HO1.out).2.2); (case side2 => exact (Kd.V_reads' HO1.out).2.1); rintro e w' ⟨rfl, ⟨nd, rfl⟩⟩; (try first | exact ⟨rfl, _, World.drewN_drewN _ _ _⟩ | exact ⟨rfl, _, Eq.trans (World.drewN_drewN _ _ _) (congrArg (World.drewN _) (Nat.add_assoc _ _ _))⟩))))
   go_meet
   case rel => exact ⟨_, ((t412 != 0)), rs, H', ⟨by first | omega | exact Nat.le_refl _⟩, ⟨by (with_reducible repeat (first | apply Kd.V_alloc | apply Kd.V_drewN | apply Kd.V_drew)); exact HO0.out⟩, ⟨by (with_reducible repeat (first | apply Kd.V_alloc | apply Kd.V_drewN | apply Kd.V_drew)); exact HO1.out⟩, ⟨skB HB.out⟩⟩
  ·
   rw [if_neg c5] at H
   have c5b0 : (t411 == 0) = false := beq_eq_false_iff_ne.mpr c5
   have c5b1 : (t411 != 0) = true := bne_iff_ne.mpr c5
   (first | rw [c5b0] | (simp only [i64_w, i32_w]; rw [c5b0]) | skip)
   have H' := asd H
   clear H
   go_wp2_with (first | (go_at_call 21; (with_reducible refine (model_Check.calls k _ _ l0 t411 _ ?side1 ?side2 A4.out).mono ?_); (case side1 => exact skC (Kd.V_reads' HO0.out).2.2); (case side2 => exact (Kd.V_reads' HO0.out).2.1); rintro e w' ⟨rfl, ⟨nd, rfl⟩⟩; (try first | exact ⟨rfl, _, World.drewN_drewN _ _ _⟩ | exact ⟨rfl, _, Eq.trans (World.drewN_drewN _ _ _) (congrArg (World.drewN _) (Nat.add_assoc _ _ _))⟩)))
   repeat (go_quiet (first | (go_at_call 21; (with_reducible refine (model_Check.calls k _ _ l0 t411 _ ?side1 ?side2 A4.out).mono ?_); (case side1 => exact skC (Kd.V_reads' HO0.out).2.2); (case side2 => exact (Kd.V_reads' HO0.out).2.1); rintro e w' ⟨rfl, ⟨nd, rfl⟩⟩; (try first | exact ⟨rfl, _, World.drewN_drewN _ _ _⟩ | exact ⟨rfl, _, Eq.trans (World.drewN_drewN _ _ _) (congrArg (World.drewN _) (Nat.add_assoc _ _ _))⟩))); try go_wp2_with (first | (go_at_call 21; (with_reducible refine (model_Check.calls k _ _ l0 t411 _ ?side1 ?side2 A4.out).mono ?_); (case side1 => exact skC (Kd.V_reads' HO0.out).2.2); (case side2 => exact (Kd.V_reads' HO0.out).2.1); rintro e w' ⟨rfl, ⟨nd, rfl⟩⟩; (try first | exact ⟨rfl, _, World.drewN_drewN _ _ _⟩ | exact ⟨rfl, _, Eq.trans (World.drewN_drewN _ _ _) (congrArg (World.drewN _) (Nat.add_assoc _ _ _))⟩))))
   go_meet
   case rel => exact ⟨_, (true), rs, H', ⟨by first | omega | exact Nat.le_refl _⟩, ⟨by (with_reducible repeat (first | apply Kd.V_alloc | apply Kd.V_drewN | apply Kd.V_drew)); exact HO0.out⟩, ⟨by (with_reducible repeat (first | apply Kd.V_alloc | apply Kd.V_drewN | apply Kd.V_drew)); exact HO1.out⟩, ⟨skB HB.out⟩⟩
 case rest =>
  clear HC3
  try clear c1
  try clear c2
  try clear p2
  try clear c5
  try clear c5b0
  try clear c5b1
  obtain ⟨kq, x14_2, rfl, HA, HJ2, HO_0, HO_1, HB⟩ := hcut
  cases kq with
  | zero => exact absurd HA.out (by simp [model_Differ.j0])
  | succ kj2 =>
   have H := HA.out
   clear HA
   simp only [model_Differ.j0] at H
   by_cases c7 : x14_2 = true
   ·
    subst c7
    have H1 : (some (([] : List Int), 11)) = some (r1, r2) := by rw [if_pos rfl] at H; exact H
    clear H
    have H := H1
    clear H1
    simp only [Option.some.injEq, Prod.mk.injEq] at H
    obtain ⟨rfl, rfl⟩ := H
    go_wp2
    repeat (go_quiet (fail); try go_wp2)
    go_ret2
    exact ⟨_, re, by first | exact Kd.R_nil _ _ _ _ _ | exact Kd.N_nil _ _ _ _ _ | exact Kd.V_nil _ _ _ _ _ | exact Kd.Q_nil _ _ _ _ _ | exact Kd.S_nil _ _ _ _ _, skB HB.out⟩
   ·
    replace c7 := Bool.eq_false_iff.mpr c7
    subst c7
    have H1 : (model_Differ.l0 kj2 l0 l1 ([] : List Int)) = some (r1, r2) := by rw [if_neg (show ¬ (false = true) by decide)] at H; exact H
    clear H
    have H := H1
    clear H1
    have H' := asd H
    clear H
    go_wp2
    repeat (go_quiet (fail); try go_wp2)
    go_loopg [0, 1, 6] kj2 (fun kq v0 v1 v6 w' => ∃ (x0_2 : List (S51)) (x1_2 : List (S51)) (x6_2 : List Int), Aside0 (model_Differ.l0 kq x0_2 x1_2 x6_2 = some (r1, r2)) ∧ Aside0 (kq ≤ kj2) ∧ Aside0 (Kd.V k51 51 w' w.heap.size (fun k_ => ((P0_ k_ ∨ P1_ k_) ∨ w.heap.size ≤ k_) ∧ some k_ ≠ (v6 : Value).ownBlock) v0 x0_2) ∧ Aside0 (Kd.V k51 51 w' w.heap.size (fun k_ => ((P0_ k_ ∨ P1_ k_) ∨ w.heap.size ≤ k_) ∧ some k_ ≠ (v6 : Value).ownBlock) v1 x1_2) ∧ Aside0 (Kd.R (Kd.int .i64) 3 w' w.heap.size (fun k_ => (w.heap.size ≤ k_)) v6 x6_2) ∧ Aside0 (Below w.heap.size w w'))
    case atStart => exact ⟨(l0), (l1), (([] : List Int)), H', ⟨Nat.le_refl _⟩, ⟨by (with_reducible repeat (first | apply Kd.V_alloc | apply Kd.V_drewN | apply Kd.V_drew)); exact Kd.V_mono HO_0.out (fun _ hk => ⟨hk, (by simp [Value.ownBlock])⟩)⟩, ⟨by (with_reducible repeat (first | apply Kd.V_alloc | apply Kd.V_drewN | apply Kd.V_drew)); exact Kd.V_mono HO_1.out (fun _ hk => ⟨hk, (by simp [Value.ownBlock])⟩)⟩, ⟨by first | exact Kd.R_nil _ _ _ _ _ | exact Kd.N_nil _ _ _ _ _ | exact Kd.V_nil _ _ _ _ _ | exact Kd.Q_nil _ _ _ _ _ | exact Kd.S_nil _ _ _ _ _⟩, ⟨skB HB.out⟩⟩
    case round =>
     clear H'
     try clear c1
     try clear c2
     try clear p2
     try clear c5
     try clear c5b0
     try clear c5b1
     try clear c7
     try clear p2
     obtain ⟨x0_2, x1_2, x6_2, HA, HK2, HO_0, HO_1, HO_6, HB⟩ := hrel
     cases gk with
     | zero => exact absurd HA.out (by simp [model_Differ.l0])
     | succ k2 =>
      have H := HA.out
      clear HA
      simp only [model_Differ.l0] at H
      have HC8 := asd H
      clear H
      go_upto_region 4 with (fail)
      repeat (go_quiet (fail); go_upto_region 4 with (fail))
      go_cut [22] (fun v22 wc => ∃ (kq : Nat) (x22_7 : Bool), v22 = .bool x22_7 ∧ Aside0 (model_Differ.j2 kq x0_2 x1_2 x6_2 x22_7 = some (r1, r2)) ∧ Aside0 (kq ≤ k2) ∧ Aside0 (Kd.V k51 51 wc w.heap.size (fun k_ => ((P0_ k_ ∨ P1_ k_) ∨ w.heap.size ≤ k_) ∧ some k_ ≠ (u6 : Value).ownBlock) u0 x0_2) ∧ Aside0 (Kd.V k51 51 wc w.heap.size (fun k_ => ((P0_ k_ ∨ P1_ k_) ∨ w.heap.size ≤ k_) ∧ some k_ ≠ (u6 : Value).ownBlock) u1 x1_2) ∧ Aside0 (Kd.R (Kd.int .i64) 3 wc w.heap.size (fun k_ => (w.heap.size ≤ k_)) u6 x6_2) ∧ Aside0 (Below w.heap.size w wc))
      case first =>
       have H := HC8.out
       clear HC8
       by_cases c9 : (x0_2.length : Int) > 0
       ·
        rw [if_pos c9] at H
        have c9b0 : decide (0 < (x0_2.length : Int)) = true := decide_eq_true c9
        have c9b1 : decide (0 < x0_2.length) = true := decide_eq_true (by omega)
        clear c9
        (first | rw [c9b0] | (simp only [i64_w, i32_w]; rw [c9b0]) | skip)
        have H' := asd H
        clear H
        obtain ⟨Ao10, co10, eo10⟩ := Kd.V_slice HO_0.out
        subst eo10
        go_wp2
        repeat (go_quiet (fail); try go_wp2)
        go_meet
        case rel => exact ⟨_, (true), rs, H', ⟨by have := HJ2.out; have := HK2.out; first | omega | exact Nat.le_refl _⟩, ⟨by (with_reducible repeat (first | apply Kd.V_alloc | apply Kd.V_drewN | apply Kd.V_drew)); exact HO_0.out⟩, ⟨by (with_reducible repeat (first | apply Kd.V_alloc | apply Kd.V_drewN | apply Kd.V_drew)); exact HO_1.out⟩, ⟨skR HO_6.out⟩, ⟨skB HB.out⟩⟩
       ·
        rw [if_neg c9] at H
        have c9b0 : decide (0 < (x0_2.length : Int)) = false := decide_eq_false c9
        have c9b1 : decide (0 < x0_2.length) = false := decide_eq_false (by omega)
        clear c9
        (first | rw [c9b0] | (simp only [i64_w, i32_w]; rw [c9b0]) | skip)
        have H' := asd H
        clear H
        obtain ⟨Ao11, co11, eo11⟩ := Kd.V_slice HO_0.out
        subst eo11
        obtain ⟨Ao12, co12, eo12⟩ := Kd.V_slice HO_1.out
        subst eo12
        go_wp2
        repeat (go_quiet (fail); try go_wp2)
        go_meet
        case rel => exact ⟨_, (decide ((x1_2.length : Int) > 0)), rs, H', ⟨by have := HJ2.out; have := HK2.out; first | omega | exact Nat.le_refl _⟩, ⟨by (with_reducible repeat (first | apply Kd.V_alloc | apply Kd.V_drewN | apply Kd.V_drew)); exact HO_0.out⟩, ⟨by (with_reducible repeat (first | apply Kd.V_alloc | apply Kd.V_drewN | apply Kd.V_drew)); exact HO_1.out⟩, ⟨skR HO_6.out⟩, ⟨skB HB.out⟩⟩
      case rest =>
       clear HC8
       try clear c1
       try clear c2
       try clear p2
       try clear c5
       try clear c5b0
       try clear c5b1
       try clear c7
       try clear c9
       try clear c9b0
       try clear c9b1
       try clear p2
       obtain ⟨kq, x22_7, rfl, HA, HJ7, HO_0, HO_1, HO_6, HB⟩ := hcut
       cases kq with
       | zero => exact absurd HA.out (by simp [model_Differ.j2])
       | succ kj7 =>
        have H := HA.out
        clear HA
        simp only [model_Differ.j2] at H
        by_cases c13 : x22_7 = true
        ·
         subst c13
         have H1 : (if (x1_2.length : Int) = 0 then (model_Differ.j3 kj7 x0_2 x1_2 x6_2 true) else (if (x0_2.length : Int) > 0 then (if 0 < (x0_2.length : Int) then (if 0 < (x1_2.length : Int) then (model_Differ.j3 kj7 x0_2 x1_2 x6_2 (decide (((J51 x0_2 0).f0) < ((J51 x1_2 0).f0)))) else (none)) else (none)) else (model_Differ.j3 kj7 x0_2 x1_2 x6_2 false))) = some (r1, r2) := by rw [if_pos rfl] at H; exact H
         clear H
         have H := H1
         clear H1
         have HC14 := asd H
         clear H
         go_upto_region 8 with (fail)
         repeat (go_quiet (fail); go_upto_region 8 with (fail))
         go_cut [43] (fun v43 wc => ∃ (kq : Nat) (x43_13 : Bool), v43 = .bool x43_13 ∧ Aside0 (model_Differ.j3 kq x0_2 x1_2 x6_2 x43_13 = some (r1, r2)) ∧ Aside0 (kq ≤ kj7) ∧ Aside0 (Kd.V k51 51 wc w.heap.size (fun k_ => ((P0_ k_ ∨ P1_ k_) ∨ w.heap.size ≤ k_) ∧ some k_ ≠ (u6 : Value).ownBlock) u0 x0_2) ∧ Aside0 (Kd.V k51 51 wc w.heap.size (fun k_ => ((P0_ k_ ∨ P1_ k_) ∨ w.heap.size ≤ k_) ∧ some k_ ≠ (u6 : Value).ownBlock) u1 x1_2) ∧ Aside0 (Kd.R (Kd.int .i64) 3 wc w.heap.size (fun k_ => (w.heap.size ≤ k_)) u6 x6_2) ∧ Aside0 (Below w.heap.size w wc))
         case first =>
          have H := HC14.out
          clear HC14
          by_cases c15 : (x1_2.length : Int) = 0
          ·
           rw [if_pos c15] at H
           have c15b0 : ((x1_2.length : Int) == 0) = true := beq_iff_eq.mpr c15
           have c15b1 : ((x1_2.length : Int) != 0) = false := bne_eq_false_iff_eq.mpr c15
           clear c15
           (first | rw [c15b0] | (simp only [i64_w, i32_w]; rw [c15b0]) | skip)
           have H' := asd H
           clear H
           obtain ⟨Ao16, co16, eo16⟩ := Kd.V_slice HO_1.out
           subst eo16
           go_wp2
           repeat (go_quiet (fail); try go_wp2)
           go_meet
           case rel => exact ⟨_, (true), rs, H', ⟨by have := HJ2.out; have := HK2.out; have := HJ7.out; first | omega | exact Nat.le_refl _⟩, ⟨by (with_reducible repeat (first | apply Kd.V_alloc | apply Kd.V_drewN | apply Kd.V_drew)); exact HO_0.out⟩, ⟨by (with_reducible repeat (first | apply Kd.V_alloc | apply Kd.V_drewN | apply Kd.V_drew)); exact HO_1.out⟩, ⟨skR HO_6.out⟩, ⟨skB HB.out⟩⟩
          ·
           rw [if_neg c15] at H
           have c15b0 : ((x1_2.length : Int) == 0) = false := beq_eq_false_iff_ne.mpr c15
           have c15b1 : ((x1_2.length : Int) != 0) = true := bne_iff_ne.mpr c15
           have c15b2 : ¬ (x1_2 = []) := fun h_ => c15 (by rw [h_]; rfl)
           (first | rw [c15b0] | (simp only [i64_w, i32_w]; rw [c15b0]) | skip)
           by_cases c17 : (x0_2.length : Int) > 0
           ·
            rw [if_pos c17] at H
            have c17b0 : decide (0 < (x0_2.length : Int)) = true := decide_eq_true c17
            have c17b1 : decide (0 < x0_2.length) = true := decide_eq_true (by omega)
            clear c17
            by_cases c18 : 0 < (x0_2.length : Int)
            ·
             rw [if_pos c18] at H
             have c18b0 : decide (0 < (x0_2.length : Int)) = true := decide_eq_true c18
             have c18b1 : decide (0 < x0_2.length) = true := decide_eq_true (by omega)
             clear c18
             by_cases c19 : 0 < (x1_2.length : Int)
             ·
              rw [if_pos c19] at H
              have c19b0 : decide (0 < (x1_2.length : Int)) = true := decide_eq_true c19
              have c19b1 : decide (0 < x1_2.length) = true := decide_eq_true (by omega)
              clear c19
              have H' := asd H
              clear H
              obtain ⟨Ao20, co20, eo20⟩ := Kd.V_slice HO_1.out
              subst eo20
              obtain ⟨Ao21, co21, eo21⟩ := Kd.V_slice HO_0.out
              subst eo21
              have p413 : 0 ≤ (0 : Int) := (by omega)
              have q413 : 0 < (x0_2.length : Int) := dt
              obtain ⟨ad413, e413, hx413_0, hx413_1⟩ := at_T51 (Kd.V_reads' HO_0.out).2.2 0 p413 q413
              cases e413
              have qi413 : (0 < x0_2.length) = True := eq_true (by omega)
              (try rw [show ((0 : Int)).toNat = 0 from rfl] at hx413_0)
              (try rw [show 0 * 2 = 0 from rfl] at hx413_0)
              (try rw [Addr.add_zero'] at hx413_0)
              (try rw [show ((0 : Int)).toNat = 0 from rfl] at hx413_1)
              (try rw [show 0 * 2 = 0 from rfl] at hx413_1)
              (try rw [Addr.add_zero'] at hx413_1)
              replace p413 := eq_true p413
              replace q413 := eq_true q413
              have p414 : 0 ≤ (0 : Int) := (by omega)
              have q414 : 0 < (x1_2.length : Int) := dt
              obtain ⟨ad414, e414, hx414_0, hx414_1⟩ := at_T51 (Kd.V_reads' HO_1.out).2.2 0 p414 q414
              cases e414
              have qi414 : (0 < x1_2.length) = True := eq_true (by omega)
              (try rw [show ((0 : Int)).toNat = 0 from rfl] at hx414_0)
              (try rw [show 0 * 2 = 0 from rfl] at hx414_0)
              (try rw [Addr.add_zero'] at hx414_0)
              (try rw [show ((0 : Int)).toNat = 0 from rfl] at hx414_1)
              (try rw [show 0 * 2 = 0 from rfl] at hx414_1)
              (try rw [Addr.add_zero'] at hx414_1)
              replace p414 := eq_true p414
              replace q414 := eq_true q414
              go_wp2
              repeat (go_quiet (fail); try go_wp2)
              go_meet
              case rel => exact ⟨_, (decide (((J51 x0_2 0).f0) < ((J51 x1_2 0).f0))), rs, H', ⟨by have := HJ2.out; have := HK2.out; have := HJ7.out; first | omega | exact Nat.le_refl _⟩, ⟨by (with_reducible repeat (first | apply Kd.V_alloc | apply Kd.V_drewN | apply Kd.V_drew)); exact HO_0.out⟩, ⟨by (with_reducible repeat (first | apply Kd.V_alloc | apply Kd.V_drewN | apply Kd.V_drew)); exact HO_1.out⟩, ⟨skR HO_6.out⟩, ⟨skB HB.out⟩⟩
             ·
              rw [if_neg c19] at H
              exact absurd H (by simp)
            ·
             rw [if_neg c18] at H
             exact absurd H (by simp)
           ·
            rw [if_neg c17] at H
            have c17b0 : decide (0 < (x0_2.length : Int)) = false := decide_eq_false c17
            have c17b1 : decide (0 < x0_2.length) = false := decide_eq_false (by omega)
            clear c17
            have H' := asd H
            clear H
            obtain ⟨Ao22, co22, eo22⟩ := Kd.V_slice HO_1.out
            subst eo22
            obtain ⟨Ao23, co23, eo23⟩ := Kd.V_slice HO_0.out
            subst eo23
            go_wp2
            repeat (go_quiet (fail); try go_wp2)
            go_meet
            case rel => exact ⟨_, (false), rs, H', ⟨by have := HJ2.out; have := HK2.out; have := HJ7.out; first | omega | exact Nat.le_refl _⟩, ⟨by (with_reducible repeat (first | apply Kd.V_alloc | apply Kd.V_drewN | apply Kd.V_drew)); exact HO_0.out⟩, ⟨by (with_reducible repeat (first | apply Kd.V_alloc | apply Kd.V_drewN | apply Kd.V_drew)); exact HO_1.out⟩, ⟨skR HO_6.out⟩, ⟨skB HB.out⟩⟩
         case rest =>
          clear HC14
          try clear c1
          try clear c2
          try clear p2
          try clear p4
          try clear q4
          try clear hx4
          try clear qi4
          try clear c5
          try clear c5b0
          try clear c5b1
          try clear c7
          try clear c9
          try clear c9b0
          try clear c9b1
          try clear c13
          try clear c15
          try clear c15b0
          try clear c15b1
          try clear c15b2
          try clear c17
          try clear c17b0
          try clear c17b1
          try clear c18
          try clear c18b0
          try clear c18b1
          try clear c19
          try clear c19b0
          try clear c19b1
          try clear hx413_0
          try clear hx413_1
          try clear hx414_0
          try clear hx414_1
          try clear p2
          try clear p413
          try clear p414
          try clear q413
          try clear q414
          obtain ⟨kq, x43_13, rfl, HA, HJ13, HO_0, HO_1, HO_6, HB⟩ := hcut
          cases kq with
          | zero => exact absurd HA.out (by simp [model_Differ.j3])
          | succ kj13 =>
           have H := HA.out
           clear HA
           simp only [model_Differ.j3] at H
           by_cases c24 : x43_13 = true
           ·
            subst c24
            have H1 : (if 0 < (x0_2.length : Int) then (if x6_2.length < 17592186044416 then (if 1 ≤ (x0_2.length : Int) then (model_Differ.l0 kj13 (x0_2.drop 1) x1_2 (x6_2 ++ [(J51 x0_2 0).f0])) else (none)) else (none)) else (none)) = some (r1, r2) := by rw [if_pos rfl] at H; exact H
            clear H
            have H := H1
            clear H1
            by_cases c25 : 0 < (x0_2.length : Int)
            ·
             rw [if_pos c25] at H
             have c25b0 : decide (0 < (x0_2.length : Int)) = true := decide_eq_true c25
             have c25b1 : decide (0 < x0_2.length) = true := decide_eq_true (by omega)
             clear c25
             by_cases c26 : x6_2.length < 17592186044416
             ·
              rw [if_pos c26] at H
              have LMc26 := asd c26
              clear c26
              obtain ⟨y416, hy416⟩ : ∃ y_ : List Int, y_ = (x6_2 ++ [(J51 x0_2 0).f0]) := ⟨_, rfl⟩
              replace H : (if 1 ≤ (x0_2.length : Int) then (model_Differ.l0 kj13 (x0_2.drop 1) x1_2 y416) else (none)) = some (r1, r2) := by first | (rw [hy416]; with_reducible exact H) | (have H2_ := (Option.bind_some _ _).symm.trans H; rw [hy416]; with_reducible exact H2_) | (have H2_ := (Option.bind_some _ _).symm.trans H; with_reducible exact H2_) | with_reducible exact H | (rw [hy416]; exact H) | exact H
              have Ny416 := asd hy416
              clear hy416
              by_cases c27 : 1 ≤ (x0_2.length : Int)
              ·
               rw [if_pos c27] at H
               have c27b0 := eq_true c27
               have c27b1 : decide (1 ≤ (x0_2.length : Int)) = true := decide_eq_true c27
               clear c27
               obtain ⟨y419, hy419⟩ : ∃ y_ : List (S51), y_ = (x0_2.drop 1) := ⟨_, rfl⟩
               replace H : (model_Differ.l0 kj13 y419 x1_2 y416) = some (r1, r2) := by first | (rw [hy419]; with_reducible exact H) | (have H2_ := (Option.bind_some _ _).symm.trans H; rw [hy419]; with_reducible exact H2_) | (have H2_ := (Option.bind_some _ _).symm.trans H; with_reducible exact H2_) | with_reducible exact H | (rw [hy419]; exact H) | exact H
               have Ny419 := asd hy419
               clear hy419
               have H' := asd H
               clear H
               obtain ⟨Ao28, co28, eo28⟩ := Kd.V_slice HO_0.out
               subst eo28
               have p415 : 0 ≤ (0 : Int) := (by omega)
               have q415 : 0 < (x0_2.length : Int) := dt
               obtain ⟨ad415, e415, hx415_0, hx415_1⟩ := at_T51 (Kd.V_reads' HO_0.out).2.2 0 p415 q415
               cases e415
               have qi415 : (0 < x0_2.length) = True := eq_true (by omega)
               (try rw [show ((0 : Int)).toNat = 0 from rfl] at hx415_0)
               (try rw [show 0 * 2 = 0 from rfl] at hx415_0)
               (try rw [Addr.add_zero'] at hx415_0)
               (try rw [show ((0 : Int)).toNat = 0 from rfl] at hx415_1)
               (try rw [show 0 * 2 = 0 from rfl] at hx415_1)
               (try rw [Addr.add_zero'] at hx415_1)
               replace p415 := eq_true p415
               replace q415 := eq_true q415
               go_wp2_with (first | ((with_reducible refine gate_builtin (b := .append) (xs := #[.tmp 63, .tmp 68]) rfl ?_); (try (refine gate_guard (by rfl) ?_; dsimp only)); at_builtin; refine Kd.R_append (Kd.int .i64) (w0 := w) w.heap.size rfl (.tmp 63) (.tmp 68) 55 3 (.int .i64 0) 8 rfl Try.underlying55 info3 rfl (by decide) (by omega) u6 x6_2 ((J51 x0_2 0).f0) [.int .i64 ((J51 x0_2 0).f0)] (fun k_ => (w.heap.size ≤ k_)) (fun _ => False) rfl rfl ?aP (fun _ hk => hk.elim) ?aF ?aO ?aB ?aS ?aL ?_; (case aP => exact rfl); (case aB => exact (skB HB.out)); (case aF => exact (fun k_ hk => (Nat.le_trans (below_size (skB HB.out)) hk))); (case aO => exact (skR HO_6.out)); (case aS => exact (below_size (skB HB.out))); (case aL => have := LMc26.out; omega); intro v417 w29 ho hb hg hat; rw [← Ny416.out] at ho; have n0_ := asd (Kd.V_afterv (ok := (fun k_ => ((P0_ k_ ∨ P1_ k_) ∨ w.heap.size ≤ k_))) (by (with_reducible repeat (first | apply Kd.V_alloc | apply Kd.V_drewN | apply Kd.V_drew)); exact HO_0.out) hg hat); have n1_ := asd (Kd.V_afterv (ok := (fun k_ => ((P0_ k_ ∨ P1_ k_) ∨ w.heap.size ≤ k_))) (by (with_reducible repeat (first | apply Kd.V_alloc | apply Kd.V_drewN | apply Kd.V_drew)); exact HO_1.out) hg hat); have n2_ := asd (hb); have n3_ := asd (ho); clear HO_0; clear HO_1; clear HB; clear HO_6; have HO_0 := n0_; have HO_1 := n1_; have HB := n2_; have HO418 := n3_; clear n0_ n1_ n2_ n3_; clear ho hb hg hat; have q30 : (1 : Int) ≤ ((x0_2.length : Int) : Int) := dt; obtain ⟨i030, hi030, _, hsz30, _⟩ := info_parts info51; have hroom30 : x0_2.length ≤ co28 := (Kd.V_reads' HO_0.out).2.1; have hC30 : Kd.F k51 _ _ (some ad415) x0_2.length x0_2 := (Kd.V_at (base := w.heap.size) HO_0.out).2.2; have hcut30 := cut_from (P := Try.prog) 22 51 .i64 Try.underlying22 hi030 2 hsz30 (some ad415) x0_2.length co28 1 (by omega) q30; have hr30 := Kd.F_cut (m := (1 : Int).toNat) (c := co28) hC30 (by omega) hroom30; obtain ⟨A30, hA30⟩ : ∃ A1, A1 = (if co28 = (1 : Int).toNat then (some ad415) else ((some ad415) : Option Addr).map (·.add ((1 : Int).toNat * 2))) := ⟨_, rfl⟩; obtain ⟨c30, hc30⟩ : ∃ c1, c1 = co28 - (1 : Int).toNat := ⟨_, rfl⟩; have hy30 : y419.length = x0_2.length - (1 : Int).toNat := (by rw [Ny419.out, List.length_drop] <;> omega); rw [show (x0_2).drop (1 : Int).toNat = y419 from Ny419.out.symm] at hr30; replace hr30 : Kd.F k51 _ _ A30 y419.length y419 := (by rw [hA30]; exact hr30); rw [← hy30, ← hA30, ← hc30] at hcut30; have HO423 := asd (show Kd.V k51 51 _ w.heap.size _ (.slice A30 y419.length c30) y419 from Kd.V_mk (by rw [hy30, hc30]; exact Nat.sub_le_sub_right hroom30 _) hr30); have HC423 := asd (show y419.length ≤ c30 from by rw [hy30, hc30]; exact Nat.sub_le_sub_right hroom30 _); clear hr30 hC30 hroom30 hi030 hsz30 hc30; have KY30 := asd hy30; have KA30 := asd hA30; clear hy30 hA30; replace q30 := eq_true q30))
               repeat (go_quiet (first | ((with_reducible refine gate_builtin (b := .append) (xs := #[.tmp 63, .tmp 68]) rfl ?_); (try (refine gate_guard (by rfl) ?_; dsimp only)); at_builtin; refine Kd.R_append (Kd.int .i64) (w0 := w) w.heap.size rfl (.tmp 63) (.tmp 68) 55 3 (.int .i64 0) 8 rfl Try.underlying55 info3 rfl (by decide) (by omega) u6 x6_2 ((J51 x0_2 0).f0) [.int .i64 ((J51 x0_2 0).f0)] (fun k_ => (w.heap.size ≤ k_)) (fun _ => False) rfl rfl ?aP (fun _ hk => hk.elim) ?aF ?aO ?aB ?aS ?aL ?_; (case aP => exact rfl); (case aB => exact (skB HB.out)); (case aF => exact (fun k_ hk => (Nat.le_trans (below_size (skB HB.out)) hk))); (case aO => exact (skR HO_6.out)); (case aS => exact (below_size (skB HB.out))); (case aL => have := LMc26.out; omega); intro v417 w29 ho hb hg hat; rw [← Ny416.out] at ho; have n0_ := asd (Kd.V_afterv (ok := (fun k_ => ((P0_ k_ ∨ P1_ k_) ∨ w.heap.size ≤ k_))) (by (with_reducible repeat (first | apply Kd.V_alloc | apply Kd.V_drewN | apply Kd.V_drew)); exact HO_0.out) hg hat); have n1_ := asd (Kd.V_afterv (ok := (fun k_ => ((P0_ k_ ∨ P1_ k_) ∨ w.heap.size ≤ k_))) (by (with_reducible repeat (first | apply Kd.V_alloc | apply Kd.V_drewN | apply Kd.V_drew)); exact HO_1.out) hg hat); have n2_ := asd (hb); have n3_ := asd (ho); clear HO_0; clear HO_1; clear HB; clear HO_6; have HO_0 := n0_; have HO_1 := n1_; have HB := n2_; have HO418 := n3_; clear n0_ n1_ n2_ n3_; clear ho hb hg hat; have q30 : (1 : Int) ≤ ((x0_2.length : Int) : Int) := dt; obtain ⟨i030, hi030, _, hsz30, _⟩ := info_parts info51; have hroom30 : x0_2.length ≤ co28 := (Kd.V_reads' HO_0.out).2.1; have hC30 : Kd.F k51 _ _ (some ad415) x0_2.length x0_2 := (Kd.V_at (base := w.heap.size) HO_0.out).2.2; have hcut30 := cut_from (P := Try.prog) 22 51 .i64 Try.underlying22 hi030 2 hsz30 (some ad415) x0_2.length co28 1 (by omega) q30; have hr30 := Kd.F_cut (m := (1 : Int).toNat) (c := co28) hC30 (by omega) hroom30; obtain ⟨A30, hA30⟩ : ∃ A1, A1 = (if co28 = (1 : Int).toNat then (some ad415) else ((some ad415) : Option Addr).map (·.add ((1 : Int).toNat * 2))) := ⟨_, rfl⟩; obtain ⟨c30, hc30⟩ : ∃ c1, c1 = co28 - (1 : Int).toNat := ⟨_, rfl⟩; have hy30 : y419.length = x0_2.length - (1 : Int).toNat := (by rw [Ny419.out, List.length_drop] <;> omega); rw [show (x0_2).drop (1 : Int).toNat = y419 from Ny419.out.symm] at hr30; replace hr30 : Kd.F k51 _ _ A30 y419.length y419 := (by rw [hA30]; exact hr30); rw [← hy30, ← hA30, ← hc30] at hcut30; have HO423 := asd (show Kd.V k51 51 _ w.heap.size _ (.slice A30 y419.length c30) y419 from Kd.V_mk (by rw [hy30, hc30]; exact Nat.sub_le_sub_right hroom30 _) hr30); have HC423 := asd (show y419.length ≤ c30 from by rw [hy30, hc30]; exact Nat.sub_le_sub_right hroom30 _); clear hr30 hC30 hroom30 hi030 hsz30 hc30; have KY30 := asd hy30; have KA30 := asd hA30; clear hy30 hA30; replace q30 := eq_true q30)); try go_wp2_with (first | ((with_reducible refine gate_builtin (b := .append) (xs := #[.tmp 63, .tmp 68]) rfl ?_); (try (refine gate_guard (by rfl) ?_; dsimp only)); at_builtin; refine Kd.R_append (Kd.int .i64) (w0 := w) w.heap.size rfl (.tmp 63) (.tmp 68) 55 3 (.int .i64 0) 8 rfl Try.underlying55 info3 rfl (by decide) (by omega) u6 x6_2 ((J51 x0_2 0).f0) [.int .i64 ((J51 x0_2 0).f0)] (fun k_ => (w.heap.size ≤ k_)) (fun _ => False) rfl rfl ?aP (fun _ hk => hk.elim) ?aF ?aO ?aB ?aS ?aL ?_; (case aP => exact rfl); (case aB => exact (skB HB.out)); (case aF => exact (fun k_ hk => (Nat.le_trans (below_size (skB HB.out)) hk))); (case aO => exact (skR HO_6.out)); (case aS => exact (below_size (skB HB.out))); (case aL => have := LMc26.out; omega); intro v417 w29 ho hb hg hat; rw [← Ny416.out] at ho; have n0_ := asd (Kd.V_afterv (ok := (fun k_ => ((P0_ k_ ∨ P1_ k_) ∨ w.heap.size ≤ k_))) (by (with_reducible repeat (first | apply Kd.V_alloc | apply Kd.V_drewN | apply Kd.V_drew)); exact HO_0.out) hg hat); have n1_ := asd (Kd.V_afterv (ok := (fun k_ => ((P0_ k_ ∨ P1_ k_) ∨ w.heap.size ≤ k_))) (by (with_reducible repeat (first | apply Kd.V_alloc | apply Kd.V_drewN | apply Kd.V_drew)); exact HO_1.out) hg hat); have n2_ := asd (hb); have n3_ := asd (ho); clear HO_0; clear HO_1; clear HB; clear HO_6; have HO_0 := n0_; have HO_1 := n1_; have HB := n2_; have HO418 := n3_; clear n0_ n1_ n2_ n3_; clear ho hb hg hat; have q30 : (1 : Int) ≤ ((x0_2.length : Int) : Int) := dt; obtain ⟨i030, hi030, _, hsz30, _⟩ := info_parts info51; have hroom30 : x0_2.length ≤ co28 := (Kd.V_reads' HO_0.out).2.1; have hC30 : Kd.F k51 _ _ (some ad415) x0_2.length x0_2 := (Kd.V_at (base := w.heap.size) HO_0.out).2.2; have hcut30 := cut_from (P := Try.prog) 22 51 .i64 Try.underlying22 hi030 2 hsz30 (some ad415) x0_2.length co28 1 (by omega) q30; have hr30 := Kd.F_cut (m := (1 : Int).toNat) (c := co28) hC30 (by omega) hroom30; obtain ⟨A30, hA30⟩ : ∃ A1, A1 = (if co28 = (1 : Int).toNat then (some ad415) else ((some ad415) : Option Addr).map (·.add ((1 : Int).toNat * 2))) := ⟨_, rfl⟩; obtain ⟨c30, hc30⟩ : ∃ c1, c1 = co28 - (1 : Int).toNat := ⟨_, rfl⟩; have hy30 : y419.length = x0_2.length - (1 : Int).toNat := (by rw [Ny419.out, List.length_drop] <;> omega); rw [show (x0_2).drop (1 : Int).toNat = y419 from Ny419.out.symm] at hr30; replace hr30 : Kd.F k51 _ _ A30 y419.length y419 := (by rw [hA30]; exact hr30); rw [← hy30, ← hA30, ← hc30] at hcut30; have HO423 := asd (show Kd.V k51 51 _ w.heap.size _ (.slice A30 y419.length c30) y419 from Kd.V_mk (by rw [hy30, hc30]; exact Nat.sub_le_sub_right hroom30 _) hr30); have HC423 := asd (show y419.length ≤ c30 from by rw [hy30, hc30]; exact Nat.sub_le_sub_right hroom30 _); clear hr30 hC30 hroom30 hi030 hsz30 hc30; have KY30 := asd hy30; have KA30 := asd hA30; clear hy30 hA30; replace q30 := eq_true q30)))
               go_roundg kj13
               case measure => have := HJ2.out; have := HK2.out; have := HJ7.out; have := HJ13.out; omega
               case rel => exact ⟨(y419), (x1_2), (y416), H', ⟨by have := HJ2.out; have := HK2.out; have := HJ7.out; have := HJ13.out; omega⟩, ⟨by (with_reducible repeat (first | apply Kd.V_alloc | apply Kd.V_drewN | apply Kd.V_drew)); exact HO423.out⟩, ⟨by (with_reducible repeat (first | apply Kd.V_alloc | apply Kd.V_drewN | apply Kd.V_drew)); exact HO_1.out⟩, ⟨skR HO418.out⟩, ⟨skB HB.out⟩⟩
              ·
               rw [if_neg c27] at H
               exact absurd H (by simp)
             ·
              rw [if_neg c26] at H
              exact absurd H (by simp)
            ·
             rw [if_neg c25] at H
             exact absurd H (by simp)
           ·
            replace c24 := Bool.eq_false_iff.mpr c24
            subst c24
            have H1 : (if (x0_2.length : Int) = 0 then (model_Differ.j4 kj13 x0_2 x1_2 x6_2 true) else (if 0 < (x1_2.length : Int) then (if 0 < (x0_2.length : Int) then (model_Differ.j4 kj13 x0_2 x1_2 x6_2 (decide (((J51 x1_2 0).f0) < ((J51 x0_2 0).f0)))) else (none)) else (none))) = some (r1, r2) := by rw [if_neg (show ¬ (false = true) by decide)] at H; exact H
            clear H
            have H := H1
            clear H1
            have HC31 := asd H
            clear H
            go_upto_region 11 with (fail)
            repeat (go_quiet (fail); go_upto_region 11 with (fail))
            go_cut [72] (fun v72 wc => ∃ (kq : Nat) (x72_30 : Bool), v72 = .bool x72_30 ∧ Aside0 (model_Differ.j4 kq x0_2 x1_2 x6_2 x72_30 = some (r1, r2)) ∧ Aside0 (kq ≤ kj13) ∧ Aside0 (Kd.V k51 51 wc w.heap.size (fun k_ => ((P0_ k_ ∨ P1_ k_) ∨ w.heap.size ≤ k_) ∧ some k_ ≠ (u6 : Value).ownBlock) u0 x0_2) ∧ Aside0 (Kd.V k51 51 wc w.heap.size (fun k_ => ((P0_ k_ ∨ P1_ k_) ∨ w.heap.size ≤ k_) ∧ some k_ ≠ (u6 : Value).ownBlock) u1 x1_2) ∧ Aside0 (Kd.R (Kd.int .i64) 3 wc w.heap.size (fun k_ => (w.heap.size ≤ k_)) u6 x6_2) ∧ Aside0 (Below w.heap.size w wc))
            case first =>
             have H := HC31.out
             clear HC31
             by_cases c32 : (x0_2.length : Int) = 0
             ·
              rw [if_pos c32] at H
              have c32b0 : ((x0_2.length : Int) == 0) = true := beq_iff_eq.mpr c32
              have c32b1 : ((x0_2.length : Int) != 0) = false := bne_eq_false_iff_eq.mpr c32
              clear c32
              (first | rw [c32b0] | (simp only [i64_w, i32_w]; rw [c32b0]) | skip)
              have H' := asd H
              clear H
              obtain ⟨Ao33, co33, eo33⟩ := Kd.V_slice HO_0.out
              subst eo33
              go_wp2
              repeat (go_quiet (fail); try go_wp2)
              go_meet
              case rel => exact ⟨_, (true), rs, H', ⟨by have := HJ2.out; have := HK2.out; have := HJ7.out; have := HJ13.out; first | omega | exact Nat.le_refl _⟩, ⟨by (with_reducible repeat (first | apply Kd.V_alloc | apply Kd.V_drewN | apply Kd.V_drew)); exact HO_0.out⟩, ⟨by (with_reducible repeat (first | apply Kd.V_alloc | apply Kd.V_drewN | apply Kd.V_drew)); exact HO_1.out⟩, ⟨skR HO_6.out⟩, ⟨skB HB.out⟩⟩
             ·
              rw [if_neg c32] at H
              have c32b0 : ((x0_2.length : Int) == 0) = false := beq_eq_false_iff_ne.mpr c32
              have c32b1 : ((x0_2.length : Int) != 0) = true := bne_iff_ne.mpr c32
              have c32b2 : ¬ (x0_2 = []) := fun h_ => c32 (by rw [h_]; rfl)
              (first | rw [c32b0] | (simp only [i64_w, i32_w]; rw [c32b0]) | skip)
              by_cases c34 : 0 < (x1_2.length : Int)
              ·
               rw [if_pos c34] at H
               have c34b0 : decide (0 < (x1_2.length : Int)) = true := decide_eq_true c34
               have c34b1 : decide (0 < x1_2.length) = true := decide_eq_true (by omega)
               clear c34
               by_cases c35 : 0 < (x0_2.length : Int)
               ·
                rw [if_pos c35] at H
                have c35b0 : decide (0 < (x0_2.length : Int)) = true := decide_eq_true c35
                have c35b1 : decide (0 < x0_2.length) = true := decide_eq_true (by omega)
                clear c35
                have H' := asd H
                clear H
                obtain ⟨Ao36, co36, eo36⟩ := Kd.V_slice HO_0.out
                subst eo36
                obtain ⟨Ao37, co37, eo37⟩ := Kd.V_slice HO_1.out
                subst eo37
                have p424 : 0 ≤ (0 : Int) := (by omega)
                have q424 : 0 < (x1_2.length : Int) := dt
                obtain ⟨ad424, e424, hx424_0, hx424_1⟩ := at_T51 (Kd.V_reads' HO_1.out).2.2 0 p424 q424
                cases e424
                have qi424 : (0 < x1_2.length) = True := eq_true (by omega)
                (try rw [show ((0 : Int)).toNat = 0 from rfl] at hx424_0)
                (try rw [show 0 * 2 = 0 from rfl] at hx424_0)
                (try rw [Addr.add_zero'] at hx424_0)
                (try rw [show ((0 : Int)).toNat = 0 from rfl] at hx424_1)
                (try rw [show 0 * 2 = 0 from rfl] at hx424_1)
                (try rw [Addr.add_zero'] at hx424_1)
                replace p424 := eq_true p424
                replace q424 := eq_true q424
                have p425 : 0 ≤ (0 : Int) := (by omega)
                have q425 : 0 < (x0_2.length : Int) := dt
                obtain ⟨ad425, e425, hx425_0, hx425_1⟩ := at_T51 (Kd.V_reads' HO_0.out).2.2 0 p425 q425
                cases e425
                have qi425 : (0 < x0_2.length) = True := eq_true (by omega)
                (try rw [show ((0 : Int)).toNat = 0 from rfl] at hx425_0)
                (try rw [show 0 * 2 = 0 from rfl] at hx425_0)
                (try rw [Addr.add_zero'] at hx425_0)
                (try rw [show ((0 : Int)).toNat = 0 from rfl] at hx425_1)
                (try rw [show 0 * 2 = 0 from rfl] at hx425_1)
                (try rw [Addr.add_zero'] at hx425_1)
                replace p425 := eq_true p425
                replace q425 := eq_true q425
                go_wp2
                repeat (go_quiet (fail); try go_wp2)
                go_meet
                case rel => exact ⟨_, (decide (((J51 x1_2 0).f0) < ((J51 x0_2 0).f0))), rs, H', ⟨by have := HJ2.out; have := HK2.out; have := HJ7.out; have := HJ13.out; first | omega | exact Nat.le_refl _⟩, ⟨by (with_reducible repeat (first | apply Kd.V_alloc | apply Kd.V_drewN | apply Kd.V_drew)); exact HO_0.out⟩, ⟨by (with_reducible repeat (first | apply Kd.V_alloc | apply Kd.V_drewN | apply Kd.V_drew)); exact HO_1.out⟩, ⟨skR HO_6.out⟩, ⟨skB HB.out⟩⟩
               ·
                rw [if_neg c35] at H
                exact absurd H (by simp)
              ·
               rw [if_neg c34] at H
               exact absurd H (by simp)
            case rest =>
             clear HC31
             try clear c1
             try clear c2
             try clear p2
             try clear c3
             try clear q3
             try clear p4
             try clear q4
             try clear hx4
             try clear qi4
             try clear c5
             try clear c5b0
             try clear c5b1
             try clear c7
             try clear c9
             try clear c9b0
             try clear c9b1
             try clear c13
             try clear c15
             try clear c15b0
             try clear c15b1
             try clear c15b2
             try clear c17
             try clear c17b0
             try clear c17b1
             try clear c18
             try clear c18b0
             try clear c18b1
             try clear c19
             try clear c19b0
             try clear c19b1
             try clear c24
             try clear c25
             try clear c25b0
             try clear c25b1
             try clear c26
             try clear c27
             try clear c27b0
             try clear c27b1
             try clear c28
             try clear c30
             try clear q30
             try clear c32
             try clear c32b0
             try clear c32b1
             try clear c32b2
             try clear c34
             try clear c34b0
             try clear c34b1
             try clear c35
             try clear c35b0
             try clear c35b1
             try clear hx413_0
             try clear hx413_1
             try clear hx414_0
             try clear hx414_1
             try clear hx415_0
             try clear hx415_1
             try clear hx424_0
             try clear hx424_1
             try clear hx425_0
             try clear hx425_1
             try clear p2
             try clear p4
             try clear p413
             try clear p414
             try clear p415
             try clear p424
             try clear p425
             try clear q30
             try clear q4
             try clear q413
             try clear q414
             try clear q415
             try clear q424
             try clear q425
             obtain ⟨kq, x72_30, rfl, HA, HJ30, HO_0, HO_1, HO_6, HB⟩ := hcut
             cases kq with
             | zero => exact absurd HA.out (by simp [model_Differ.j4])
             | succ kj30 =>
              have H := HA.out
              clear HA
              simp only [model_Differ.j4] at H
              by_cases c38 : x72_30 = true
              ·
               subst c38
               have H1 : (if 0 < (x1_2.length : Int) then (if x6_2.length < 17592186044416 then (if 1 ≤ (x1_2.length : Int) then (model_Differ.l0 kj30 x0_2 (x1_2.drop 1) (x6_2 ++ [(J51 x1_2 0).f0])) else (none)) else (none)) else (none)) = some (r1, r2) := by rw [if_pos rfl] at H; exact H
               clear H
               have H := H1
               clear H1
               by_cases c39 : 0 < (x1_2.length : Int)
               ·
                rw [if_pos c39] at H
                have c39b0 : decide (0 < (x1_2.length : Int)) = true := decide_eq_true c39
                have c39b1 : decide (0 < x1_2.length) = true := decide_eq_true (by omega)
                clear c39
                by_cases c40 : x6_2.length < 17592186044416
                ·
                 rw [if_pos c40] at H
                 have LMc40 := asd c40
                 clear c40
                 obtain ⟨y427, hy427⟩ : ∃ y_ : List Int, y_ = (x6_2 ++ [(J51 x1_2 0).f0]) := ⟨_, rfl⟩
                 replace H : (if 1 ≤ (x1_2.length : Int) then (model_Differ.l0 kj30 x0_2 (x1_2.drop 1) y427) else (none)) = some (r1, r2) := by first | (rw [hy427]; with_reducible exact H) | (have H2_ := (Option.bind_some _ _).symm.trans H; rw [hy427]; with_reducible exact H2_) | (have H2_ := (Option.bind_some _ _).symm.trans H; with_reducible exact H2_) | with_reducible exact H | (rw [hy427]; exact H) | exact H
                 have Ny427 := asd hy427
                 clear hy427
                 by_cases c41 : 1 ≤ (x1_2.length : Int)
                 ·
                  rw [if_pos c41] at H
                  have c41b0 := eq_true c41
                  have c41b1 : decide (1 ≤ (x1_2.length : Int)) = true := decide_eq_true c41
                  clear c41
                  obtain ⟨y430, hy430⟩ : ∃ y_ : List (S51), y_ = (x1_2.drop 1) := ⟨_, rfl⟩
                  replace H : (model_Differ.l0 kj30 x0_2 y430 y427) = some (r1, r2) := by first | (rw [hy430]; with_reducible exact H) | (have H2_ := (Option.bind_some _ _).symm.trans H; rw [hy430]; with_reducible exact H2_) | (have H2_ := (Option.bind_some _ _).symm.trans H; with_reducible exact H2_) | with_reducible exact H | (rw [hy430]; exact H) | exact H
                  have Ny430 := asd hy430
                  clear hy430
                  have H' := asd H
                  clear H
                  obtain ⟨Ao42, co42, eo42⟩ := Kd.V_slice HO_1.out
                  subst eo42
                  have p426 : 0 ≤ (0 : Int) := (by omega)
                  have q426 : 0 < (x1_2.length : Int) := dt
                  obtain ⟨ad426, e426, hx426_0, hx426_1⟩ := at_T51 (Kd.V_reads' HO_1.out).2.2 0 p426 q426
                  cases e426
                  have qi426 : (0 < x1_2.length) = True := eq_true (by omega)
                  (try rw [show ((0 : Int)).toNat = 0 from rfl] at hx426_0)
                  (try rw [show 0 * 2 = 0 from rfl] at hx426_0)
                  (try rw [Addr.add_zero'] at hx426_0)
                  (try rw [show ((0 : Int)).toNat = 0 from rfl] at hx426_1)
                  (try rw [show 0 * 2 = 0 from rfl] at hx426_1)
                  (try rw [Addr.add_zero'] at hx426_1)
                  replace p426 := eq_true p426
                  replace q426 := eq_true q426
                  go_wp2_with (first | ((with_reducible refine gate_builtin (b := .append) (xs := #[.tmp 87, .tmp 92]) rfl ?_); (try (refine gate_guard (by rfl) ?_; dsimp only)); at_builtin; refine Kd.R_append (Kd.int .i64) (w0 := w) w.heap.size rfl (.tmp 87) (.tmp 92) 55 3 (.int .i64 0) 8 rfl Try.underlying55 info3 rfl (by decide) (by omega) u6 x6_2 ((J51 x1_2 0).f0) [.int .i64 ((J51 x1_2 0).f0)] (fun k_ => (w.heap.size ≤ k_)) (fun _ => False) rfl rfl ?aP (fun _ hk => hk.elim) ?aF ?aO ?aB ?aS ?aL ?_; (case aP => exact rfl); (case aB => exact (skB HB.out)); (case aF => exact (fun k_ hk => (Nat.le_trans (below_size (skB HB.out)) hk))); (case aO => exact (skR HO_6.out)); (case aS => exact (below_size (skB HB.out))); (case aL => have := LMc40.out; omega); intro v428 w43 ho hb hg hat; rw [← Ny427.out] at ho; have n0_ := asd (Kd.V_afterv (ok := (fun k_ => ((P0_ k_ ∨ P1_ k_) ∨ w.heap.size ≤ k_))) (by (with_reducible repeat (first | apply Kd.V_alloc | apply Kd.V_drewN | apply Kd.V_drew)); exact HO_0.out) hg hat); have n1_ := asd (Kd.V_afterv (ok := (fun k_ => ((P0_ k_ ∨ P1_ k_) ∨ w.heap.size ≤ k_))) (by (with_reducible repeat (first | apply Kd.V_alloc | apply Kd.V_drewN | apply Kd.V_drew)); exact HO_1.out) hg hat); have n2_ := asd (hb); have n3_ := asd (ho); clear HO_0; clear HO_1; clear HB; clear HO_6; have HO_0 := n0_; have HO_1 := n1_; have HB := n2_; have HO429 := n3_; clear n0_ n1_ n2_ n3_; clear ho hb hg hat; have q44 : (1 : Int) ≤ ((x1_2.length : Int) : Int) := dt; obtain ⟨i044, hi044, _, hsz44, _⟩ := info_parts info51; have hroom44 : x1_2.length ≤ co42 := (Kd.V_reads' HO_1.out).2.1; have hC44 : Kd.F k51 _ _ (some ad426) x1_2.length x1_2 := (Kd.V_at (base := w.heap.size) HO_1.out).2.2; have hcut44 := cut_from (P := Try.prog) 22 51 .i64 Try.underlying22 hi044 2 hsz44 (some ad426) x1_2.length co42 1 (by omega) q44; have hr44 := Kd.F_cut (m := (1 : Int).toNat) (c := co42) hC44 (by omega) hroom44; obtain ⟨A44, hA44⟩ : ∃ A1, A1 = (if co42 = (1 : Int).toNat then (some ad426) else ((some ad426) : Option Addr).map (·.add ((1 : Int).toNat * 2))) := ⟨_, rfl⟩; obtain ⟨c44, hc44⟩ : ∃ c1, c1 = co42 - (1 : Int).toNat := ⟨_, rfl⟩; have hy44 : y430.length = x1_2.length - (1 : Int).toNat := (by rw [Ny430.out, List.length_drop] <;> omega); rw [show (x1_2).drop (1 : Int).toNat = y430 from Ny430.out.symm] at hr44; replace hr44 : Kd.F k51 _ _ A44 y430.length y430 := (by rw [hA44]; exact hr44); rw [← hy44, ← hA44, ← hc44] at hcut44; have HO434 := asd (show Kd.V k51 51 _ w.heap.size _ (.slice A44 y430.length c44) y430 from Kd.V_mk (by rw [hy44, hc44]; exact Nat.sub_le_sub_right hroom44 _) hr44); have HC434 := asd (show y430.length ≤ c44 from by rw [hy44, hc44]; exact Nat.sub_le_sub_right hroom44 _); clear hr44 hC44 hroom44 hi044 hsz44 hc44; have KY44 := asd hy44; have KA44 := asd hA44; clear hy44 hA44; replace q44 := eq_true q44))
                  repeat (go_quiet (first | ((with_reducible refine gate_builtin (b := .append) (xs := #[.tmp 87, .tmp 92]) rfl ?_); (try (refine gate_guard (by rfl) ?_; dsimp only)); at_builtin; refine Kd.R_append (Kd.int .i64) (w0 := w) w.heap.size rfl (.tmp 87) (.tmp 92) 55 3 (.int .i64 0) 8 rfl Try.underlying55 info3 rfl (by decide) (by omega) u6 x6_2 ((J51 x1_2 0).f0) [.int .i64 ((J51 x1_2 0).f0)] (fun k_ => (w.heap.size ≤ k_)) (fun _ => False) rfl rfl ?aP (fun _ hk => hk.elim) ?aF ?aO ?aB ?aS ?aL ?_; (case aP => exact rfl); (case aB => exact (skB HB.out)); (case aF => exact (fun k_ hk => (Nat.le_trans (below_size (skB HB.out)) hk))); (case aO => exact (skR HO_6.out)); (case aS => exact (below_size (skB HB.out))); (case aL => have := LMc40.out; omega); intro v428 w43 ho hb hg hat; rw [← Ny427.out] at ho; have n0_ := asd (Kd.V_afterv (ok := (fun k_ => ((P0_ k_ ∨ P1_ k_) ∨ w.heap.size ≤ k_))) (by (with_reducible repeat (first | apply Kd.V_alloc | apply Kd.V_drewN | apply Kd.V_drew)); exact HO_0.out) hg hat); have n1_ := asd (Kd.V_afterv (ok := (fun k_ => ((P0_ k_ ∨ P1_ k_) ∨ w.heap.size ≤ k_))) (by (with_reducible repeat (first | apply Kd.V_alloc | apply Kd.V_drewN | apply Kd.V_drew)); exact HO_1.out) hg hat); have n2_ := asd (hb); have n3_ := asd (ho); clear HO_0; clear HO_1; clear HB; clear HO_6; have HO_0 := n0_; have HO_1 := n1_; have HB := n2_; have HO429 := n3_; clear n0_ n1_ n2_ n3_; clear ho hb hg hat; have q44 : (1 : Int) ≤ ((x1_2.length : Int) : Int) := dt; obtain ⟨i044, hi044, _, hsz44, _⟩ := info_parts info51; have hroom44 : x1_2.length ≤ co42 := (Kd.V_reads' HO_1.out).2.1; have hC44 : Kd.F k51 _ _ (some ad426) x1_2.length x1_2 := (Kd.V_at (base := w.heap.size) HO_1.out).2.2; have hcut44 := cut_from (P := Try.prog) 22 51 .i64 Try.underlying22 hi044 2 hsz44 (some ad426) x1_2.length co42 1 (by omega) q44; have hr44 := Kd.F_cut (m := (1 : Int).toNat) (c := co42) hC44 (by omega) hroom44; obtain ⟨A44, hA44⟩ : ∃ A1, A1 = (if co42 = (1 : Int).toNat then (some ad426) else ((some ad426) : Option Addr).map (·.add ((1 : Int).toNat * 2))) := ⟨_, rfl⟩; obtain ⟨c44, hc44⟩ : ∃ c1, c1 = co42 - (1 : Int).toNat := ⟨_, rfl⟩; have hy44 : y430.length = x1_2.length - (1 : Int).toNat := (by rw [Ny430.out, List.length_drop] <;> omega); rw [show (x1_2).drop (1 : Int).toNat = y430 from Ny430.out.symm] at hr44; replace hr44 : Kd.F k51 _ _ A44 y430.length y430 := (by rw [hA44]; exact hr44); rw [← hy44, ← hA44, ← hc44] at hcut44; have HO434 := asd (show Kd.V k51 51 _ w.heap.size _ (.slice A44 y430.length c44) y430 from Kd.V_mk (by rw [hy44, hc44]; exact Nat.sub_le_sub_right hroom44 _) hr44); have HC434 := asd (show y430.length ≤ c44 from by rw [hy44, hc44]; exact Nat.sub_le_sub_right hroom44 _); clear hr44 hC44 hroom44 hi044 hsz44 hc44; have KY44 := asd hy44; have KA44 := asd hA44; clear hy44 hA44; replace q44 := eq_true q44)); try go_wp2_with (first | ((with_reducible refine gate_builtin (b := .append) (xs := #[.tmp 87, .tmp 92]) rfl ?_); (try (refine gate_guard (by rfl) ?_; dsimp only)); at_builtin; refine Kd.R_append (Kd.int .i64) (w0 := w) w.heap.size rfl (.tmp 87) (.tmp 92) 55 3 (.int .i64 0) 8 rfl Try.underlying55 info3 rfl (by decide) (by omega) u6 x6_2 ((J51 x1_2 0).f0) [.int .i64 ((J51 x1_2 0).f0)] (fun k_ => (w.heap.size ≤ k_)) (fun _ => False) rfl rfl ?aP (fun _ hk => hk.elim) ?aF ?aO ?aB ?aS ?aL ?_; (case aP => exact rfl); (case aB => exact (skB HB.out)); (case aF => exact (fun k_ hk => (Nat.le_trans (below_size (skB HB.out)) hk))); (case aO => exact (skR HO_6.out)); (case aS => exact (below_size (skB HB.out))); (case aL => have := LMc40.out; omega); intro v428 w43 ho hb hg hat; rw [← Ny427.out] at ho; have n0_ := asd (Kd.V_afterv (ok := (fun k_ => ((P0_ k_ ∨ P1_ k_) ∨ w.heap.size ≤ k_))) (by (with_reducible repeat (first | apply Kd.V_alloc | apply Kd.V_drewN | apply Kd.V_drew)); exact HO_0.out) hg hat); have n1_ := asd (Kd.V_afterv (ok := (fun k_ => ((P0_ k_ ∨ P1_ k_) ∨ w.heap.size ≤ k_))) (by (with_reducible repeat (first | apply Kd.V_alloc | apply Kd.V_drewN | apply Kd.V_drew)); exact HO_1.out) hg hat); have n2_ := asd (hb); have n3_ := asd (ho); clear HO_0; clear HO_1; clear HB; clear HO_6; have HO_0 := n0_; have HO_1 := n1_; have HB := n2_; have HO429 := n3_; clear n0_ n1_ n2_ n3_; clear ho hb hg hat; have q44 : (1 : Int) ≤ ((x1_2.length : Int) : Int) := dt; obtain ⟨i044, hi044, _, hsz44, _⟩ := info_parts info51; have hroom44 : x1_2.length ≤ co42 := (Kd.V_reads' HO_1.out).2.1; have hC44 : Kd.F k51 _ _ (some ad426) x1_2.length x1_2 := (Kd.V_at (base := w.heap.size) HO_1.out).2.2; have hcut44 := cut_from (P := Try.prog) 22 51 .i64 Try.underlying22 hi044 2 hsz44 (some ad426) x1_2.length co42 1 (by omega) q44; have hr44 := Kd.F_cut (m := (1 : Int).toNat) (c := co42) hC44 (by omega) hroom44; obtain ⟨A44, hA44⟩ : ∃ A1, A1 = (if co42 = (1 : Int).toNat then (some ad426) else ((some ad426) : Option Addr).map (·.add ((1 : Int).toNat * 2))) := ⟨_, rfl⟩; obtain ⟨c44, hc44⟩ : ∃ c1, c1 = co42 - (1 : Int).toNat := ⟨_, rfl⟩; have hy44 : y430.length = x1_2.length - (1 : Int).toNat := (by rw [Ny430.out, List.length_drop] <;> omega); rw [show (x1_2).drop (1 : Int).toNat = y430 from Ny430.out.symm] at hr44; replace hr44 : Kd.F k51 _ _ A44 y430.length y430 := (by rw [hA44]; exact hr44); rw [← hy44, ← hA44, ← hc44] at hcut44; have HO434 := asd (show Kd.V k51 51 _ w.heap.size _ (.slice A44 y430.length c44) y430 from Kd.V_mk (by rw [hy44, hc44]; exact Nat.sub_le_sub_right hroom44 _) hr44); have HC434 := asd (show y430.length ≤ c44 from by rw [hy44, hc44]; exact Nat.sub_le_sub_right hroom44 _); clear hr44 hC44 hroom44 hi044 hsz44 hc44; have KY44 := asd hy44; have KA44 := asd hA44; clear hy44 hA44; replace q44 := eq_true q44)))
                  go_roundg kj30
                  case measure => have := HJ2.out; have := HK2.out; have := HJ7.out; have := HJ13.out; have := HJ30.out; omega
                  case rel => exact ⟨(x0_2), (y430), (y427), H', ⟨by have := HJ2.out; have := HK2.out; have := HJ7.out; have := HJ13.out; have := HJ30.out; omega⟩, ⟨by (with_reducible repeat (first | apply Kd.V_alloc | apply Kd.V_drewN | apply Kd.V_drew)); exact HO_0.out⟩, ⟨by (with_reducible repeat (first | apply Kd.V_alloc | apply Kd.V_drewN | apply Kd.V_drew)); exact HO434.out⟩, ⟨skR HO429.out⟩, ⟨skB HB.out⟩⟩
                 ·
                  rw [if_neg c41] at H
                  exact absurd H (by simp)
                ·
                 rw [if_neg c40] at H
                 exact absurd H (by simp)
               ·
                rw [if_neg c39] at H
                exact absurd H (by simp)
              ·
               replace c38 := Bool.eq_false_iff.mpr c38
               subst c38
               have H1 : (if 0 < (x0_2.length : Int) then (if 0 < (x1_2.length : Int) then (if ((J51 x0_2 0).f1) = ((J51 x1_2 0).f1) then (if 1 ≤ (x0_2.length : Int) then (if 1 ≤ (x1_2.length : Int) then (model_Differ.l0 kj30 (x0_2.drop 1) (x1_2.drop 1) x6_2) else (none)) else (none)) else (if x6_2.length < 17592186044416 then (if 1 ≤ (x0_2.length : Int) then (if 1 ≤ (x1_2.length : Int) then (model_Differ.l0 kj30 (x0_2.drop 1) (x1_2.drop 1) (x6_2 ++ [(J51 x0_2 0).f0])) else (none)) else (none)) else (none))) else (none)) else (none)) = some (r1, r2) := by rw [if_neg (show ¬ (false = true) by decide)] at H; exact H
               clear H
               have H := H1
               clear H1
               by_cases c45 : 0 < (x0_2.length : Int)
               ·
                rw [if_pos c45] at H
                have c45b0 : decide (0 < (x0_2.length : Int)) = true := decide_eq_true c45
                have c45b1 : decide (0 < x0_2.length) = true := decide_eq_true (by omega)
                clear c45
                by_cases c46 : 0 < (x1_2.length : Int)
                ·
                 rw [if_pos c46] at H
                 have c46b0 : decide (0 < (x1_2.length : Int)) = true := decide_eq_true c46
                 have c46b1 : decide (0 < x1_2.length) = true := decide_eq_true (by omega)
                 clear c46
                 by_cases c47 : ((J51 x0_2 0).f1) = ((J51 x1_2 0).f1)
                 ·
                  rw [if_pos c47] at H
                  have c47b0 : (((J51 x0_2 0).f1) == ((J51 x1_2 0).f1)) = true := beq_iff_eq.mpr c47
                  have c47b1 : (((J51 x0_2 0).f1) != ((J51 x1_2 0).f1)) = false := bne_eq_false_iff_eq.mpr c47
                  clear c47
                  by_cases c48 : 1 ≤ (x0_2.length : Int)
                  ·
                   rw [if_pos c48] at H
                   have c48b0 := eq_true c48
                   have c48b1 : decide (1 ≤ (x0_2.length : Int)) = true := decide_eq_true c48
                   clear c48
                   obtain ⟨y437, hy437⟩ : ∃ y_ : List (S51), y_ = (x0_2.drop 1) := ⟨_, rfl⟩
                   replace H : (if 1 ≤ (x1_2.length : Int) then (model_Differ.l0 kj30 y437 (x1_2.drop 1) x6_2) else (none)) = some (r1, r2) := by first | (rw [hy437]; with_reducible exact H) | (have H2_ := (Option.bind_some _ _).symm.trans H; rw [hy437]; with_reducible exact H2_) | (have H2_ := (Option.bind_some _ _).symm.trans H; with_reducible exact H2_) | with_reducible exact H | (rw [hy437]; exact H) | exact H
                   have Ny437 := asd hy437
                   clear hy437
                   by_cases c49 : 1 ≤ (x1_2.length : Int)
                   ·
                    rw [if_pos c49] at H
                    have c49b0 := eq_true c49
                    have c49b1 : decide (1 ≤ (x1_2.length : Int)) = true := decide_eq_true c49
                    clear c49
                    obtain ⟨y442, hy442⟩ : ∃ y_ : List (S51), y_ = (x1_2.drop 1) := ⟨_, rfl⟩
                    replace H : (model_Differ.l0 kj30 y437 y442 x6_2) = some (r1, r2) := by first | (rw [hy442]; with_reducible exact H) | (have H2_ := (Option.bind_some _ _).symm.trans H; rw [hy442]; with_reducible exact H2_) | (have H2_ := (Option.bind_some _ _).symm.trans H; with_reducible exact H2_) | with_reducible exact H | (rw [hy442]; exact H) | exact H
                    have Ny442 := asd hy442
                    clear hy442
                    have H' := asd H
                    clear H
                    obtain ⟨Ao50, co50, eo50⟩ := Kd.V_slice HO_0.out
                    subst eo50
                    have p435 : 0 ≤ (0 : Int) := (by omega)
                    have q435 : 0 < (x0_2.length : Int) := dt
                    obtain ⟨ad435, e435, hx435_0, hx435_1⟩ := at_T51 (Kd.V_reads' HO_0.out).2.2 0 p435 q435
                    cases e435
                    have qi435 : (0 < x0_2.length) = True := eq_true (by omega)
                    (try rw [show ((0 : Int)).toNat = 0 from rfl] at hx435_0)
                    (try rw [show 0 * 2 = 0 from rfl] at hx435_0)
                    (try rw [Addr.add_zero'] at hx435_0)
                    (try rw [show ((0 : Int)).toNat = 0 from rfl] at hx435_1)
                    (try rw [show 0 * 2 = 0 from rfl] at hx435_1)
                    (try rw [Addr.add_zero'] at hx435_1)
                    replace p435 := eq_true p435
                    replace q435 := eq_true q435
                    obtain ⟨Ao51, co51, eo51⟩ := Kd.V_slice HO_1.out
                    subst eo51
                    have p436 : 0 ≤ (0 : Int) := (by omega)
                    have q436 : 0 < (x1_2.length : Int) := dt
                    obtain ⟨ad436, e436, hx436_0, hx436_1⟩ := at_T51 (Kd.V_reads' HO_1.out).2.2 0 p436 q436
                    cases e436
                    have qi436 : (0 < x1_2.length) = True := eq_true (by omega)
                    (try rw [show ((0 : Int)).toNat = 0 from rfl] at hx436_0)
                    (try rw [show 0 * 2 = 0 from rfl] at hx436_0)
                    (try rw [Addr.add_zero'] at hx436_0)
                    (try rw [show ((0 : Int)).toNat = 0 from rfl] at hx436_1)
                    (try rw [show 0 * 2 = 0 from rfl] at hx436_1)
                    (try rw [Addr.add_zero'] at hx436_1)
                    replace p436 := eq_true p436
                    replace q436 := eq_true q436
                    have q52 : (1 : Int) ≤ ((x0_2.length : Int) : Int) := dt
                    obtain ⟨i052, hi052, _, hsz52, _⟩ := info_parts info51
                    have hroom52 : x0_2.length ≤ co50 := (Kd.V_reads' HO_0.out).2.1
                    have hC52 : Kd.F k51 _ _ (some ad435) x0_2.length x0_2 := (Kd.V_at (base := w.heap.size) HO_0.out).2.2
                    have hcut52 := cut_from (P := Try.prog) 22 51 .i64 Try.underlying22 hi052 2 hsz52 (some ad435) x0_2.length co50 1 (by omega) q52
                    have hr52 := Kd.F_cut (m := (1 : Int).toNat) (c := co50) hC52 (by omega) hroom52
                    obtain ⟨A52, hA52⟩ : ∃ A1, A1 = (if co50 = (1 : Int).toNat then (some ad435) else ((some ad435) : Option Addr).map (·.add ((1 : Int).toNat * 2))) := ⟨_, rfl⟩
                    obtain ⟨c52, hc52⟩ : ∃ c1, c1 = co50 - (1 : Int).toNat := ⟨_, rfl⟩
                    have hy52 : y437.length = x0_2.length - (1 : Int).toNat := (by rw [Ny437.out, List.length_drop] <;> omega)
                    rw [show (x0_2).drop (1 : Int).toNat = y437 from Ny437.out.symm] at hr52
                    replace hr52 : Kd.F k51 _ _ A52 y437.length y437 := (by rw [hA52]; exact hr52)
                    rw [← hy52, ← hA52, ← hc52] at hcut52
                    have HO441 := asd (show Kd.V k51 51 _ w.heap.size _ (.slice A52 y437.length c52) y437 from Kd.V_mk (by rw [hy52, hc52]; exact Nat.sub_le_sub_right hroom52 _) hr52)
                    have HC441 := asd (show y437.length ≤ c52 from by rw [hy52, hc52]; exact Nat.sub_le_sub_right hroom52 _)
                    clear hr52 hC52 hroom52 hi052 hsz52 hc52
                    have KY52 := asd hy52
                    have KA52 := asd hA52
                    clear hy52 hA52
                    replace q52 := eq_true q52
                    have q53 : (1 : Int) ≤ ((x1_2.length : Int) : Int) := dt
                    obtain ⟨i053, hi053, _, hsz53, _⟩ := info_parts info51
                    have hroom53 : x1_2.length ≤ co51 := (Kd.V_reads' HO_1.out).2.1
                    have hC53 : Kd.F k51 _ _ (some ad436) x1_2.length x1_2 := (Kd.V_at (base := w.heap.size) HO_1.out).2.2
                    have hcut53 := cut_from (P := Try.prog) 22 51 .i64 Try.underlying22 hi053 2 hsz53 (some ad436) x1_2.length co51 1 (by omega) q53
                    have hr53 := Kd.F_cut (m := (1 : Int).toNat) (c := co51) hC53 (by omega) hroom53
                    obtain ⟨A53, hA53⟩ : ∃ A1, A1 = (if co51 = (1 : Int).toNat then (some ad436) else ((some ad436) : Option Addr).map (·.add ((1 : Int).toNat * 2))) := ⟨_, rfl⟩
                    obtain ⟨c53, hc53⟩ : ∃ c1, c1 = co51 - (1 : Int).toNat := ⟨_, rfl⟩
                    have hy53 : y442.length = x1_2.length - (1 : Int).toNat := (by rw [Ny442.out, List.length_drop] <;> omega)
                    rw [show (x1_2).drop (1 : Int).toNat = y442 from Ny442.out.symm] at hr53
                    replace hr53 : Kd.F k51 _ _ A53 y442.length y442 := (by rw [hA53]; exact hr53)
                    rw [← hy53, ← hA53, ← hc53] at hcut53
                    have HO446 := asd (show Kd.V k51 51 _ w.heap.size _ (.slice A53 y442.length c53) y442 from Kd.V_mk (by rw [hy53, hc53]; exact Nat.sub_le_sub_right hroom53 _) hr53)
                    have HC446 := asd (show y442.length ≤ c53 from by rw [hy53, hc53]; exact Nat.sub_le_sub_right hroom53 _)
                    clear hr53 hC53 hroom53 hi053 hsz53 hc53
                    have KY53 := asd hy53
                    have KA53 := asd hA53
                    clear hy53 hA53
                    replace q53 := eq_true q53
                    go_wp2
                    repeat (go_quiet (fail); try go_wp2)
                    go_roundg kj30
                    case measure => have := HJ2.out; have := HK2.out; have := HJ7.out; have := HJ13.out; have := HJ30.out; omega
                    case rel => exact ⟨(y437), (y442), (x6_2), H', ⟨by have := HJ2.out; have := HK2.out; have := HJ7.out; have := HJ13.out; have := HJ30.out; omega⟩, ⟨by (with_reducible repeat (first | apply Kd.V_alloc | apply Kd.V_drewN | apply Kd.V_drew)); exact HO441.out⟩, ⟨by (with_reducible repeat (first | apply Kd.V_alloc | apply Kd.V_drewN | apply Kd.V_drew)); exact HO446.out⟩, ⟨skR HO_6.out⟩, ⟨skB HB.out⟩⟩
                   ·
                    rw [if_neg c49] at H
                    exact absurd H (by simp)
                  ·
                   rw [if_neg c48] at H
                   exact absurd H (by simp)
                 ·
                  rw [if_neg c47] at H
                  have c47b0 : (((J51 x0_2 0).f1) == ((J51 x1_2 0).f1)) = false := beq_eq_false_iff_ne.mpr c47
                  have c47b1 : (((J51 x0_2 0).f1) != ((J51 x1_2 0).f1)) = true := bne_iff_ne.mpr c47
                  by_cases c54 : x6_2.length < 17592186044416
                  ·
                   rw [if_pos c54] at H
                   have LMc54 := asd c54
                   clear c54
                   obtain ⟨y448, hy448⟩ : ∃ y_ : List Int, y_ = (x6_2 ++ [(J51 x0_2 0).f0]) := ⟨_, rfl⟩
                   replace H : (if 1 ≤ (x0_2.length : Int) then (if 1 ≤ (x1_2.length : Int) then (model_Differ.l0 kj30 (x0_2.drop 1) (x1_2.drop 1) y448) else (none)) else (none)) = some (r1, r2) := by first | (rw [hy448]; with_reducible exact H) | (have H2_ := (Option.bind_some _ _).symm.trans H; rw [hy448]; with_reducible exact H2_) | (have H2_ := (Option.bind_some _ _).symm.trans H; with_reducible exact H2_) | with_reducible exact H | (rw [hy448]; exact H) | exact H
                   have Ny448 := asd hy448
                   clear hy448
                   by_cases c55 : 1 ≤ (x0_2.length : Int)
                   ·
                    rw [if_pos c55] at H
                    have c55b0 := eq_true c55
                    have c55b1 : decide (1 ≤ (x0_2.length : Int)) = true := decide_eq_true c55
                    clear c55
                    obtain ⟨y451, hy451⟩ : ∃ y_ : List (S51), y_ = (x0_2.drop 1) := ⟨_, rfl⟩
                    replace H : (if 1 ≤ (x1_2.length : Int) then (model_Differ.l0 kj30 y451 (x1_2.drop 1) y448) else (none)) = some (r1, r2) := by first | (rw [hy451]; with_reducible exact H) | (have H2_ := (Option.bind_some _ _).symm.trans H; rw [hy451]; with_reducible exact H2_) | (have H2_ := (Option.bind_some _ _).symm.trans H; with_reducible exact H2_) | with_reducible exact H | (rw [hy451]; exact H) | exact H
                    have Ny451 := asd hy451
                    clear hy451
                    by_cases c56 : 1 ≤ (x1_2.length : Int)
                    ·
                     rw [if_pos c56] at H
                     have c56b0 := eq_true c56
                     have c56b1 : decide (1 ≤ (x1_2.length : Int)) = true := decide_eq_true c56
                     clear c56
                     obtain ⟨y456, hy456⟩ : ∃ y_ : List (S51), y_ = (x1_2.drop 1) := ⟨_, rfl⟩
                     replace H : (model_Differ.l0 kj30 y451 y456 y448) = some (r1, r2) := by first | (rw [hy456]; with_reducible exact H) | (have H2_ := (Option.bind_some _ _).symm.trans H; rw [hy456]; with_reducible exact H2_) | (have H2_ := (Option.bind_some _ _).symm.trans H; with_reducible exact H2_) | with_reducible exact H | (rw [hy456]; exact H) | exact H
                     have Ny456 := asd hy456
                     clear hy456
                     have H' := asd H
                     clear H
                     obtain ⟨Ao57, co57, eo57⟩ := Kd.V_slice HO_0.out
                     subst eo57
                     have p435 : 0 ≤ (0 : Int) := (by omega)
                     have q435 : 0 < (x0_2.length : Int) := dt
                     obtain ⟨ad435, e435, hx435_0, hx435_1⟩ := at_T51 (Kd.V_reads' HO_0.out).2.2 0 p435 q435
                     cases e435
                     have qi435 : (0 < x0_2.length) = True := eq_true (by omega)
                     (try rw [show ((0 : Int)).toNat = 0 from rfl] at hx435_0)
                     (try rw [show 0 * 2 = 0 from rfl] at hx435_0)
                     (try rw [Addr.add_zero'] at hx435_0)
                     (try rw [show ((0 : Int)).toNat = 0 from rfl] at hx435_1)
                     (try rw [show 0 * 2 = 0 from rfl] at hx435_1)
                     (try rw [Addr.add_zero'] at hx435_1)
                     replace p435 := eq_true p435
                     replace q435 := eq_true q435
                     obtain ⟨Ao58, co58, eo58⟩ := Kd.V_slice HO_1.out
                     subst eo58
                     have p436 : 0 ≤ (0 : Int) := (by omega)
                     have q436 : 0 < (x1_2.length : Int) := dt
                     obtain ⟨ad436, e436, hx436_0, hx436_1⟩ := at_T51 (Kd.V_reads' HO_1.out).2.2 0 p436 q436
                     cases e436
                     have qi436 : (0 < x1_2.length) = True := eq_true (by omega)
                     (try rw [show ((0 : Int)).toNat = 0 from rfl] at hx436_0)
                     (try rw [show 0 * 2 = 0 from rfl] at hx436_0)
                     (try rw [Addr.add_zero'] at hx436_0)
                     (try rw [show ((0 : Int)).toNat = 0 from rfl] at hx436_1)
                     (try rw [show 0 * 2 = 0 from rfl] at hx436_1)
                     (try rw [Addr.add_zero'] at hx436_1)
                     replace p436 := eq_true p436
                     replace q436 := eq_true q436
                     have p447 : 0 ≤ (0 : Int) := (by omega)
                     have q447 : 0 < (x0_2.length : Int) := dt
                     obtain ⟨ad447, e447, hx447_0, hx447_1⟩ := at_T51 (Kd.V_reads' HO_0.out).2.2 0 p447 q447
                     obtain rfl : ad435 = ad447 := (by injection e447)
                     have qi447 : (0 < x0_2.length) = True := eq_true (by omega)
                     (try rw [show ((0 : Int)).toNat = 0 from rfl] at hx447_0)
                     (try rw [show 0 * 2 = 0 from rfl] at hx447_0)
                     (try rw [Addr.add_zero'] at hx447_0)
                     (try rw [show ((0 : Int)).toNat = 0 from rfl] at hx447_1)
                     (try rw [show 0 * 2 = 0 from rfl] at hx447_1)
                     (try rw [Addr.add_zero'] at hx447_1)
                     replace p447 := eq_true p447
                     replace q447 := eq_true q447
                     go_wp2_with (first | ((with_reducible refine gate_builtin (b := .append) (xs := #[.tmp 32, .tmp 37]) rfl ?_); (try (refine gate_guard (by rfl) ?_; dsimp only)); at_builtin; refine Kd.R_append (Kd.int .i64) (w0 := w) w.heap.size rfl (.tmp 32) (.tmp 37) 55 3 (.int .i64 0) 8 rfl Try.underlying55 info3 rfl (by decide) (by omega) u6 x6_2 ((J51 x0_2 0).f0) [.int .i64 ((J51 x0_2 0).f0)] (fun k_ => (w.heap.size ≤ k_)) (fun _ => False) rfl rfl ?aP (fun _ hk => hk.elim) ?aF ?aO ?aB ?aS ?aL ?_; (case aP => exact rfl); (case aB => exact (skB HB.out)); (case aF => exact (fun k_ hk => (Nat.le_trans (below_size (skB HB.out)) hk))); (case aO => exact (skR HO_6.out)); (case aS => exact (below_size (skB HB.out))); (case aL => have := LMc54.out; omega); intro v449 w59 ho hb hg hat; rw [← Ny448.out] at ho; have n0_ := asd (Kd.V_afterv (ok := (fun k_ => ((P0_ k_ ∨ P1_ k_) ∨ w.heap.size ≤ k_))) (by (with_reducible repeat (first | apply Kd.V_alloc | apply Kd.V_drewN | apply Kd.V_drew)); exact HO_0.out) hg hat); have n1_ := asd (Kd.V_afterv (ok := (fun k_ => ((P0_ k_ ∨ P1_ k_) ∨ w.heap.size ≤ k_))) (by (with_reducible repeat (first | apply Kd.V_alloc | apply Kd.V_drewN | apply Kd.V_drew)); exact HO_1.out) hg hat); have n2_ := asd (hb); have n3_ := asd (ho); clear HO_0; clear HO_1; clear HB; clear HO_6; have HO_0 := n0_; have HO_1 := n1_; have HB := n2_; have HO450 := n3_; clear n0_ n1_ n2_ n3_; clear ho hb hg hat; have q60 : (1 : Int) ≤ ((x0_2.length : Int) : Int) := dt; obtain ⟨i060, hi060, _, hsz60, _⟩ := info_parts info51; have hroom60 : x0_2.length ≤ co57 := (Kd.V_reads' HO_0.out).2.1; have hC60 : Kd.F k51 _ _ (some ad435) x0_2.length x0_2 := (Kd.V_at (base := w.heap.size) HO_0.out).2.2; have hcut60 := cut_from (P := Try.prog) 22 51 .i64 Try.underlying22 hi060 2 hsz60 (some ad435) x0_2.length co57 1 (by omega) q60; have hr60 := Kd.F_cut (m := (1 : Int).toNat) (c := co57) hC60 (by omega) hroom60; obtain ⟨A60, hA60⟩ : ∃ A1, A1 = (if co57 = (1 : Int).toNat then (some ad435) else ((some ad435) : Option Addr).map (·.add ((1 : Int).toNat * 2))) := ⟨_, rfl⟩; obtain ⟨c60, hc60⟩ : ∃ c1, c1 = co57 - (1 : Int).toNat := ⟨_, rfl⟩; have hy60 : y451.length = x0_2.length - (1 : Int).toNat := (by rw [Ny451.out, List.length_drop] <;> omega); rw [show (x0_2).drop (1 : Int).toNat = y451 from Ny451.out.symm] at hr60; replace hr60 : Kd.F k51 _ _ A60 y451.length y451 := (by rw [hA60]; exact hr60); rw [← hy60, ← hA60, ← hc60] at hcut60; have HO455 := asd (show Kd.V k51 51 _ w.heap.size _ (.slice A60 y451.length c60) y451 from Kd.V_mk (by rw [hy60, hc60]; exact Nat.sub_le_sub_right hroom60 _) hr60); have HC455 := asd (show y451.length ≤ c60 from by rw [hy60, hc60]; exact Nat.sub_le_sub_right hroom60 _); clear hr60 hC60 hroom60 hi060 hsz60 hc60; have KY60 := asd hy60; have KA60 := asd hA60; clear hy60 hA60; replace q60 := eq_true q60; have q61 : (1 : Int) ≤ ((x1_2.length : Int) : Int) := dt; obtain ⟨i061, hi061, _, hsz61, _⟩ := info_parts info51; have hroom61 : x1_2.length ≤ co58 := (Kd.V_reads' HO_1.out).2.1; have hC61 : Kd.F k51 _ _ (some ad436) x1_2.length x1_2 := (Kd.V_at (base := w.heap.size) HO_1.out).2.2; have hcut61 := cut_from (P := Try.prog) 22 51 .i64 Try.underlying22 hi061 2 hsz61 (some ad436) x1_2.length co58 1 (by omega) q61; have hr61 := Kd.F_cut (m := (1 : Int).toNat) (c := co58) hC61 (by omega) hroom61; obtain ⟨A61, hA61⟩ : ∃ A1, A1 = (if co58 = (1 : Int).toNat then (some ad436) else ((some ad436) : Option Addr).map (·.add ((1 : Int).toNat * 2))) := ⟨_, rfl⟩; obtain ⟨c61, hc61⟩ : ∃ c1, c1 = co58 - (1 : Int).toNat := ⟨_, rfl⟩; have hy61 : y456.length = x1_2.length - (1 : Int).toNat := (by rw [Ny456.out, List.length_drop] <;> omega); rw [show (x1_2).drop (1 : Int).toNat = y456 from Ny456.out.symm] at hr61; replace hr61 : Kd.F k51 _ _ A61 y456.length y456 := (by rw [hA61]; exact hr61); rw [← hy61, ← hA61, ← hc61] at hcut61; have HO460 := asd (show Kd.V k51 51 _ w.heap.size _ (.slice A61 y456.length c61) y456 from Kd.V_mk (by rw [hy61, hc61]; exact Nat.sub_le_sub_right hroom61 _) hr61); have HC460 := asd (show y456.length ≤ c61 from by rw [hy61, hc61]; exact Nat.sub_le_sub_right hroom61 _); clear hr61 hC61 hroom61 hi061 hsz61 hc61; have KY61 := asd hy61; have KA61 := asd hA61; clear hy61 hA61; replace q61 := eq_true q61))
                     repeat (go_quiet (first | ((with_reducible refine gate_builtin (b := .append) (xs := #[.tmp 32, .tmp 37]) rfl ?_); (try (refine gate_guard (by rfl) ?_; dsimp only)); at_builtin; refine Kd.R_append (Kd.int .i64) (w0 := w) w.heap.size rfl (.tmp 32) (.tmp 37) 55 3 (.int .i64 0) 8 rfl Try.underlying55 info3 rfl (by decide) (by omega) u6 x6_2 ((J51 x0_2 0).f0) [.int .i64 ((J51 x0_2 0).f0)] (fun k_ => (w.heap.size ≤ k_)) (fun _ => False) rfl rfl ?aP (fun _ hk => hk.elim) ?aF ?aO ?aB ?aS ?aL ?_; (case aP => exact rfl); (case aB => exact (skB HB.out)); (case aF => exact (fun k_ hk => (Nat.le_trans (below_size (skB HB.out)) hk))); (case aO => exact (skR HO_6.out)); (case aS => exact (below_size (skB HB.out))); (case aL => have := LMc54.out; omega); intro v449 w59 ho hb hg hat; rw [← Ny448.out] at ho; have n0_ := asd (Kd.V_afterv (ok := (fun k_ => ((P0_ k_ ∨ P1_ k_) ∨ w.heap.size ≤ k_))) (by (with_reducible repeat (first | apply Kd.V_alloc | apply Kd.V_drewN | apply Kd.V_drew)); exact HO_0.out) hg hat); have n1_ := asd (Kd.V_afterv (ok := (fun k_ => ((P0_ k_ ∨ P1_ k_) ∨ w.heap.size ≤ k_))) (by (with_reducible repeat (first | apply Kd.V_alloc | apply Kd.V_drewN | apply Kd.V_drew)); exact HO_1.out) hg hat); have n2_ := asd (hb); have n3_ := asd (ho); clear HO_0; clear HO_1; clear HB; clear HO_6; have HO_0 := n0_; have HO_1 := n1_; have HB := n2_; have HO450 := n3_; clear n0_ n1_ n2_ n3_; clear ho hb hg hat; have q60 : (1 : Int) ≤ ((x0_2.length : Int) : Int) := dt; obtain ⟨i060, hi060, _, hsz60, _⟩ := info_parts info51; have hroom60 : x0_2.length ≤ co57 := (Kd.V_reads' HO_0.out).2.1; have hC60 : Kd.F k51 _ _ (some ad435) x0_2.length x0_2 := (Kd.V_at (base := w.heap.size) HO_0.out).2.2; have hcut60 := cut_from (P := Try.prog) 22 51 .i64 Try.underlying22 hi060 2 hsz60 (some ad435) x0_2.length co57 1 (by omega) q60; have hr60 := Kd.F_cut (m := (1 : Int).toNat) (c := co57) hC60 (by omega) hroom60; obtain ⟨A60, hA60⟩ : ∃ A1, A1 = (if co57 = (1 : Int).toNat then (some ad435) else ((some ad435) : Option Addr).map (·.add ((1 : Int).toNat * 2))) := ⟨_, rfl⟩; obtain ⟨c60, hc60⟩ : ∃ c1, c1 = co57 - (1 : Int).toNat := ⟨_, rfl⟩; have hy60 : y451.length = x0_2.length - (1 : Int).toNat := (by rw [Ny451.out, List.length_drop] <;> omega); rw [show (x0_2).drop (1 : Int).toNat = y451 from Ny451.out.symm] at hr60; replace hr60 : Kd.F k51 _ _ A60 y451.length y451 := (by rw [hA60]; exact hr60); rw [← hy60, ← hA60, ← hc60] at hcut60; have HO455 := asd (show Kd.V k51 51 _ w.heap.size _ (.slice A60 y451.length c60) y451 from Kd.V_mk (by rw [hy60, hc60]; exact Nat.sub_le_sub_right hroom60 _) hr60); have HC455 := asd (show y451.length ≤ c60 from by rw [hy60, hc60]; exact Nat.sub_le_sub_right hroom60 _); clear hr60 hC60 hroom60 hi060 hsz60 hc60; have KY60 := asd hy60; have KA60 := asd hA60; clear hy60 hA60; replace q60 := eq_true q60; have q61 : (1 : Int) ≤ ((x1_2.length : Int) : Int) := dt; obtain ⟨i061, hi061, _, hsz61, _⟩ := info_parts info51; have hroom61 : x1_2.length ≤ co58 := (Kd.V_reads' HO_1.out).2.1; have hC61 : Kd.F k51 _ _ (some ad436) x1_2.length x1_2 := (Kd.V_at (base := w.heap.size) HO_1.out).2.2; have hcut61 := cut_from (P := Try.prog) 22 51 .i64 Try.underlying22 hi061 2 hsz61 (some ad436) x1_2.length co58 1 (by omega) q61; have hr61 := Kd.F_cut (m := (1 : Int).toNat) (c := co58) hC61 (by omega) hroom61; obtain ⟨A61, hA61⟩ : ∃ A1, A1 = (if co58 = (1 : Int).toNat then (some ad436) else ((some ad436) : Option Addr).map (·.add ((1 : Int).toNat * 2))) := ⟨_, rfl⟩; obtain ⟨c61, hc61⟩ : ∃ c1, c1 = co58 - (1 : Int).toNat := ⟨_, rfl⟩; have hy61 : y456.length = x1_2.length - (1 : Int).toNat := (by rw [Ny456.out, List.length_drop] <;> omega); rw [show (x1_2).drop (1 : Int).toNat = y456 from Ny456.out.symm] at hr61; replace hr61 : Kd.F k51 _ _ A61 y456.length y456 := (by rw [hA61]; exact hr61); rw [← hy61, ← hA61, ← hc61] at hcut61; have HO460 := asd (show Kd.V k51 51 _ w.heap.size _ (.slice A61 y456.length c61) y456 from Kd.V_mk (by rw [hy61, hc61]; exact Nat.sub_le_sub_right hroom61 _) hr61); have HC460 := asd (show y456.length ≤ c61 from by rw [hy61, hc61]; exact Nat.sub_le_sub_right hroom61 _); clear hr61 hC61 hroom61 hi061 hsz61 hc61; have KY61 := asd hy61; have KA61 := asd hA61; clear hy61 hA61; replace q61 := eq_true q61)); try go_wp2_with (first | ((with_reducible refine gate_builtin (b := .append) (xs := #[.tmp 32, .tmp 37]) rfl ?_); (try (refine gate_guard (by rfl) ?_; dsimp only)); at_builtin; refine Kd.R_append (Kd.int .i64) (w0 := w) w.heap.size rfl (.tmp 32) (.tmp 37) 55 3 (.int .i64 0) 8 rfl Try.underlying55 info3 rfl (by decide) (by omega) u6 x6_2 ((J51 x0_2 0).f0) [.int .i64 ((J51 x0_2 0).f0)] (fun k_ => (w.heap.size ≤ k_)) (fun _ => False) rfl rfl ?aP (fun _ hk => hk.elim) ?aF ?aO ?aB ?aS ?aL ?_; (case aP => exact rfl); (case aB => exact (skB HB.out)); (case aF => exact (fun k_ hk => (Nat.le_trans (below_size (skB HB.out)) hk))); (case aO => exact (skR HO_6.out)); (case aS => exact (below_size (skB HB.out))); (case aL => have := LMc54.out; omega); intro v449 w59 ho hb hg hat; rw [← Ny448.out] at ho; have n0_ := asd (Kd.V_afterv (ok := (fun k_ => ((P0_ k_ ∨ P1_ k_) ∨ w.heap.size ≤ k_))) (by (with_reducible repeat (first | apply Kd.V_alloc | apply Kd.V_drewN | apply Kd.V_drew)); exact HO_0.out) hg hat); have n1_ := asd (Kd.V_afterv (ok := (fun k_ => ((P0_ k_ ∨ P1_ k_) ∨ w.heap.size ≤ k_))) (by (with_reducible repeat (first | apply Kd.V_alloc | apply Kd.V_drewN | apply Kd.V_drew)); exact HO_1.out) hg hat); have n2_ := asd (hb); have n3_ := asd (ho); clear HO_0; clear HO_1; clear HB; clear HO_6; have HO_0 := n0_; have HO_1 := n1_; have HB := n2_; have HO450 := n3_; clear n0_ n1_ n2_ n3_; clear ho hb hg hat; have q60 : (1 : Int) ≤ ((x0_2.length : Int) : Int) := dt; obtain ⟨i060, hi060, _, hsz60, _⟩ := info_parts info51; have hroom60 : x0_2.length ≤ co57 := (Kd.V_reads' HO_0.out).2.1; have hC60 : Kd.F k51 _ _ (some ad435) x0_2.length x0_2 := (Kd.V_at (base := w.heap.size) HO_0.out).2.2; have hcut60 := cut_from (P := Try.prog) 22 51 .i64 Try.underlying22 hi060 2 hsz60 (some ad435) x0_2.length co57 1 (by omega) q60; have hr60 := Kd.F_cut (m := (1 : Int).toNat) (c := co57) hC60 (by omega) hroom60; obtain ⟨A60, hA60⟩ : ∃ A1, A1 = (if co57 = (1 : Int).toNat then (some ad435) else ((some ad435) : Option Addr).map (·.add ((1 : Int).toNat * 2))) := ⟨_, rfl⟩; obtain ⟨c60, hc60⟩ : ∃ c1, c1 = co57 - (1 : Int).toNat := ⟨_, rfl⟩; have hy60 : y451.length = x0_2.length - (1 : Int).toNat := (by rw [Ny451.out, List.length_drop] <;> omega); rw [show (x0_2).drop (1 : Int).toNat = y451 from Ny451.out.symm] at hr60; replace hr60 : Kd.F k51 _ _ A60 y451.length y451 := (by rw [hA60]; exact hr60); rw [← hy60, ← hA60, ← hc60] at hcut60; have HO455 := asd (show Kd.V k51 51 _ w.heap.size _ (.slice A60 y451.length c60) y451 from Kd.V_mk (by rw [hy60, hc60]; exact Nat.sub_le_sub_right hroom60 _) hr60); have HC455 := asd (show y451.length ≤ c60 from by rw [hy60, hc60]; exact Nat.sub_le_sub_right hroom60 _); clear hr60 hC60 hroom60 hi060 hsz60 hc60; have KY60 := asd hy60; have KA60 := asd hA60; clear hy60 hA60; replace q60 := eq_true q60; have q61 : (1 : Int) ≤ ((x1_2.length : Int) : Int) := dt; obtain ⟨i061, hi061, _, hsz61, _⟩ := info_parts info51; have hroom61 : x1_2.length ≤ co58 := (Kd.V_reads' HO_1.out).2.1; have hC61 : Kd.F k51 _ _ (some ad436) x1_2.length x1_2 := (Kd.V_at (base := w.heap.size) HO_1.out).2.2; have hcut61 := cut_from (P := Try.prog) 22 51 .i64 Try.underlying22 hi061 2 hsz61 (some ad436) x1_2.length co58 1 (by omega) q61; have hr61 := Kd.F_cut (m := (1 : Int).toNat) (c := co58) hC61 (by omega) hroom61; obtain ⟨A61, hA61⟩ : ∃ A1, A1 = (if co58 = (1 : Int).toNat then (some ad436) else ((some ad436) : Option Addr).map (·.add ((1 : Int).toNat * 2))) := ⟨_, rfl⟩; obtain ⟨c61, hc61⟩ : ∃ c1, c1 = co58 - (1 : Int).toNat := ⟨_, rfl⟩; have hy61 : y456.length = x1_2.length - (1 : Int).toNat := (by rw [Ny456.out, List.length_drop] <;> omega); rw [show (x1_2).drop (1 : Int).toNat = y456 from Ny456.out.symm] at hr61; replace hr61 : Kd.F k51 _ _ A61 y456.length y456 := (by rw [hA61]; exact hr61); rw [← hy61, ← hA61, ← hc61] at hcut61; have HO460 := asd (show Kd.V k51 51 _ w.heap.size _ (.slice A61 y456.length c61) y456 from Kd.V_mk (by rw [hy61, hc61]; exact Nat.sub_le_sub_right hroom61 _) hr61); have HC460 := asd (show y456.length ≤ c61 from by rw [hy61, hc61]; exact Nat.sub_le_sub_right hroom61 _); clear hr61 hC61 hroom61 hi061 hsz61 hc61; have KY61 := asd hy61; have KA61 := asd hA61; clear hy61 hA61; replace q61 := eq_true q61)))
                     go_roundg kj30
                     case measure => have := HJ2.out; have := HK2.out; have := HJ7.out; have := HJ13.out; have := HJ30.out; omega
                     case rel => exact ⟨(y451), (y456), (y448), H', ⟨by have := HJ2.out; have := HK2.out; have := HJ7.out; have := HJ13.out; have := HJ30.out; omega⟩, ⟨by (with_reducible repeat (first | apply Kd.V_alloc | apply Kd.V_drewN | apply Kd.V_drew)); exact HO455.out⟩, ⟨by (with_reducible repeat (first | apply Kd.V_alloc | apply Kd.V_drewN | apply Kd.V_drew)); exact HO460.out⟩, ⟨skR HO450.out⟩, ⟨skB HB.out⟩⟩
                    ·
                     rw [if_neg c56] at H
                     exact absurd H (by simp)
                   ·
                    rw [if_neg c55] at H
                    exact absurd H (by simp)
                  ·
                   rw [if_neg c54] at H
                   exact absurd H (by simp)
                ·
                 rw [if_neg c46] at H
                 exact absurd H (by simp)
               ·
                rw [if_neg c45] at H
                exact absurd H (by simp)
        ·
         replace c13 := Bool.eq_false_iff.mpr c13
         subst c13
         have H1 : (some (x6_2, 0)) = some (r1, r2) := by rw [if_neg (show ¬ (false = true) by decide)] at H; exact H
         clear H
         have H := H1
         clear H1
         simp only [Option.some.injEq, Prod.mk.injEq] at H
         obtain ⟨rfl, rfl⟩ := H
         go_wp2
         repeat (go_quiet (fail); try go_wp2)
         go_ret2
         exact ⟨_, re, skR HO_6.out, skB HB.out⟩
end Go.Proofs.Ytanlnfcjdjamaaa.P
/- F56 -/
namespace Go.Proofs.Ytanlnfcjdjamaaa.P
open Go.RowKit Go.Proofs.YtanlnfcjdjamaaaW.PrintWords Go.Proofs.YtanlnfcjdjamaaaW.PrintLast Go.Proofs.YtanlnfcjdjamaaaW.PrintMore
attribute [local go_sem] max2_int min2_int max_two min_two max_three min_three max_four min_four   -- for this text's walks alone
set_option linter.unusedVariables false
set_option linter.unusedSimpArgs false
mutual
def model_Plain.j0 : Nat → Int → Bool → Int → Int → Int → Int → Int → Int → Int → Int → Option (Int × Int × Int × Int)
 | 0, _, _, _, _, _, _, _, _, _, _ => none
 | k + 1, x8, x9, x465000, x465001, x465002, x465003, x467000, x467001, x467002, x467003 => if x9 = true then (some (x467000, x465001, x467002, x467003)) else (if x8 = 2 then (model_Plain.j1 k x8 (x8 == 2) x465000 x465001 x465002 x465003 x467000 x467001 x467002 x467003) else (model_Plain.j1 k x8 (x8 == 3) x465000 x465001 x465002 x465003 x467000 x467001 x467002 x467003))
def model_Plain.j1 : Nat → Int → Bool → Int → Int → Int → Int → Int → Int → Int → Int → Option (Int × Int × Int × Int)
 | 0, _, _, _, _, _, _, _, _, _, _ => none
 | k + 1, x8, x17, x465000, x465001, x465002, x465003, x467000, x467001, x467002, x467003 => if x17 = true then (some (x467000, x465001, x465002, x467003)) else (if x8 = 9 then (some (x467000, x465001, x467002, x465003)) else (some (x467000, x467001, x467002, x467003)))
end
def model_Plain.f (k : Nat) (a0_0 : Int) (a0_1 : Int) (a0_2 : Int) (a0_3 : Int) : Option (Int × Int × Int × Int) := if a0_0 = 1 then (model_Plain.j0 k a0_0 (a0_0 == 1) a0_0 a0_1 a0_2 a0_3 a0_0 0 0 0) else (if a0_0 = 4 then (model_Plain.j0 k a0_0 (a0_0 == 4) a0_0 a0_1 a0_2 a0_3 a0_0 0 0 0) else (if a0_0 = 5 then (model_Plain.j0 k a0_0 (a0_0 == 5) a0_0 a0_1 a0_2 a0_3 a0_0 0 0 0) else (model_Plain.j0 k a0_0 (a0_0 == 6) a0_0 a0_1 a0_2 a0_3 a0_0 0 0 0)))
end Go.Proofs.Ytanlnfcjdjamaaa.P
/- F57 -/
namespace Go.Proofs.Ytanlnfcjdjamaaa.P
open Go.RowKit Go.Proofs.YtanlnfcjdjamaaaW.PrintWords Go.Proofs.YtanlnfcjdjamaaaW.PrintLast Go.Proofs.YtanlnfcjdjamaaaW.PrintMore
attribute [local go_sem] max2_int min2_int max_two min_two max_three min_three max_four min_four   -- for this text's walks alone
set_option linter.unusedVariables false
set_option linter.unusedSimpArgs false
mutual
def larchref06_Plain.j0 : Nat → Bool → Int → Int → Int → Int → Int → Int → Int → Int → Option (Int × Int × Int × Int)
 | 0, _, _, _, _, _, _, _, _, _ => none
 | k + 1, x20, x468000, x468001, x468002, x468003, x470000, x470001, x470002, x470003 => if x20 = true then (larchref06_Plain.j1 k x468000 x468001 x468002 x468003 x470000 x468001 x470002 x470003) else (larchref06_Plain.j1 k x468000 x468001 x468002 x468003 x470000 x470001 x470002 x470003)
def larchref06_Plain.j1 : Nat → Int → Int → Int → Int → Int → Int → Int → Int → Option (Int × Int × Int × Int)
 | 0, _, _, _, _, _, _, _, _ => none
 | k + 1, x468000, x468001, x468002, x468003, x470000, x470001, x470002, x470003 => if x468000 = 2 then (larchref06_Plain.j2 k true x468000 x468001 x468002 x468003 x470000 x470001 x470002 x470003) else (larchref06_Plain.j2 k (x468000 == 3) x468000 x468001 x468002 x468003 x470000 x470001 x470002 x470003)
def larchref06_Plain.j2 : Nat → Bool → Int → Int → Int → Int → Int → Int → Int → Int → Option (Int × Int × Int × Int)
 | 0, _, _, _, _, _, _, _, _, _ => none
 | k + 1, x31, x468000, x468001, x468002, x468003, x470000, x470001, x470002, x470003 => if x31 = true then (if x468000 = 9 then (some (x470000, x470001, x468002, x468003)) else (some (x470000, x470001, x468002, x470003))) else (if x468000 = 9 then (some (x470000, x470001, x470002, x468003)) else (some (x470000, x470001, x470002, x470003)))
end
def larchref06_Plain.f (k : Nat) (a0_0 : Int) (a0_1 : Int) (a0_2 : Int) (a0_3 : Int) : Option (Int × Int × Int × Int) := (larchref06_Kind.f a0_0).bind fun t470 => (if t470 = 0 then (if a0_0 = 7 then (larchref06_Plain.j0 k false a0_0 a0_1 a0_2 a0_3 a0_0 0 0 0) else (larchref06_Plain.j0 k (a0_0 != 8) a0_0 a0_1 a0_2 a0_3 a0_0 0 0 0)) else (larchref06_Plain.j0 k false a0_0 a0_1 a0_2 a0_3 a0_0 0 0 0))
end Go.Proofs.Ytanlnfcjdjamaaa.P
/- F58 -/
namespace Go.Proofs.Ytanlnfcjdjamaaa.P
open Go.RowKit Go.Proofs.YtanlnfcjdjamaaaW.PrintWords Go.Proofs.YtanlnfcjdjamaaaW.PrintLast Go.Proofs.YtanlnfcjdjamaaaW.PrintMore
attribute [local go_sem] max2_int min2_int max_two min_two max_three min_three max_four min_four   -- for this text's walks alone
set_option linter.unusedVariables false
set_option linter.unusedSimpArgs false
def larchref06_Changes.f (a0 : Int) : Option (Bool) := if a0 ≥ 2 then (some (decide (a0 ≤ 4))) else (some false)
end Go.Proofs.Ytanlnfcjdjamaaa.P
/- F59 -/
namespace Go.Proofs.Ytanlnfcjdjamaaa.P
open Go.RowKit Go.Proofs.YtanlnfcjdjamaaaW.PrintWords Go.Proofs.YtanlnfcjdjamaaaW.PrintLast Go.Proofs.YtanlnfcjdjamaaaW.PrintMore
attribute [local go_sem] max2_int min2_int max_two min_two max_three min_three max_four min_four   -- for this text's walks alone
set_option linter.unusedVariables false
set_option linter.unusedSimpArgs false
def larchref06_Find.l0 : Nat → List (S51) → Int → Int → Int → Option (Int × Bool × Int)
 | 0, _, _, _, _ => none
 | k + 1, x0, x1, x7, x8 => if x8 < (x0.length : Int) then (if 0 ≤ x8 then (if ((J51 x0 x8).f0) < x1 then (larchref06_Find.l0 k x0 x1 (wrap64 (x7 + 1)) (wrap64 (x8 + 1))) else (larchref06_Find.l0 k x0 x1 x7 (wrap64 (x8 + 1)))) else (none)) else ((larchref06_look.f k x0 x1).bind fun bt473 => (some (x7, bt473.2, 0)))
def larchref06_Find.f (k : Nat) (l0 : List (S51)) (a1 : Int) : Option (Int × Bool × Int) := (larchref06_Check.f k l0).bind fun t471 => (if t471 = 0 then (larchref06_Find.l0 k l0 a1 0 0) else (some (0, false, 11)))
end Go.Proofs.Ytanlnfcjdjamaaa.P
/- F60 -/
namespace Go.Proofs.Ytanlnfcjdjamaaa.P
open Go.RowKit Go.Proofs.YtanlnfcjdjamaaaW.PrintWords Go.Proofs.YtanlnfcjdjamaaaW.PrintLast Go.Proofs.YtanlnfcjdjamaaaW.PrintMore
attribute [local go_sem] max2_int min2_int max_two min_two max_three min_three max_four min_four   -- for this text's walks alone
set_option linter.unusedVariables false
set_option linter.unusedSimpArgs false
mutual
def larchref06_Differ.j0 : Nat → List (S51) → List (S51) → Bool → Option (List Int × Int)
 | 0, _, _, _ => none
 | k + 1, x0, x1, x20 => if x20 = true then (some (([] : List Int), 11)) else (if ([] : List (S51)).length + x0.length < 8796093022208 then ((some (([] : List (S51)) ++ x0 : List (S51))).bind fun y477 => (if y477.length + x1.length < 8796093022208 then ((larchref06_Of.f k (y477 ++ x1)).bind fun t483 => (larchref06_Differ.l0 k x0 x1 t483 ([] : List Int) 0)) else (none))) else (none))
def larchref06_Differ.l0 : Nat → List (S51) → List (S51) → List (S51) → List Int → Int → Option (List Int × Int)
 | 0, _, _, _, _, _ => none
 | k + 1, x0, x1, x6, x7, x8 => if x8 < (x6.length : Int) then (if 0 ≤ x8 then ((larchref06_look.f k x0 ((J51 x6 x8).f0)).bind fun bt487 => ((larchref06_look.f k x1 ((J51 x6 x8).f0)).bind fun bt490 => (if (bt487.2 != bt490.2) = true then (if x7.length < 17592186044416 then (larchref06_Differ.l0 k x0 x1 x6 (x7 ++ [(J51 x6 x8).f0]) (wrap64 (x8 + 1))) else (none)) else (if bt487.1 = bt490.1 then (larchref06_Differ.l0 k x0 x1 x6 x7 (wrap64 (x8 + 1))) else (if x7.length < 17592186044416 then (larchref06_Differ.l0 k x0 x1 x6 (x7 ++ [(J51 x6 x8).f0]) (wrap64 (x8 + 1))) else (none)))))) else (none)) else (some (x7, 0))
end
def larchref06_Differ.f (k : Nat) (l0 : List (S51)) (l1 : List (S51)) : Option (List Int × Int) := (larchref06_Check.f k l0).bind fun t475 => (if t475 = 0 then ((larchref06_Check.f k l1).bind fun t476 => (larchref06_Differ.j0 k l0 l1 (t476 != 0))) else (larchref06_Differ.j0 k l0 l1 true))
end Go.Proofs.Ytanlnfcjdjamaaa.P
/- F62 -/
namespace Go.Proofs.Ytanlnfcjdjamaaa.P
open Go.RowKit Go.Proofs.YtanlnfcjdjamaaaW.PrintWords Go.Proofs.YtanlnfcjdjamaaaW.PrintLast Go.Proofs.YtanlnfcjdjamaaaW.PrintMore
attribute [local go_sem] max2_int min2_int max_two min_two max_three min_three max_four min_four   -- for this text's walks alone
set_option linter.unusedVariables false
set_option linter.unusedSimpArgs false
end Go.Proofs.Ytanlnfcjdjamaaa.P
/- F25 -/
namespace Go.Proofs.Ytanlnfcjdjamaaa.P
open Go.RowKit Go.Proofs.YtanlnfcjdjamaaaW.PrintWords Go.Proofs.YtanlnfcjdjamaaaW.PrintLast Go.Proofs.YtanlnfcjdjamaaaW.PrintMore
attribute [local go_sem] max2_int min2_int max_two min_two max_three min_three max_four min_four   -- for this text's walks alone
set_option linter.unusedVariables false
set_option linter.unusedSimpArgs false
def larchlaw06_few.f (l0 : List (S25)) : Option ((List (S25))) := (some (([] : List (S25)) : List (S25))).bind fun y199 => (if 0 ≤ (mn (l0.length : Int) 300) then (if (mn (l0.length : Int) 300) ≤ (l0.length : Int) then ((some (l0.take ((mn (l0.length : Int) 300) : Int).toNat : List (S25))).bind fun y202 => (if y199.length + y202.length < 4398046511104 then (some (y199 ++ y202)) else (none))) else (none)) else (none))
set_option maxHeartbeats 8000000 in
set_option maxRecDepth 100000 in
theorem larchlaw06_few.calls (A0 : Option Addr) (c0 : Nat) (l0 : List (S25)) (r : List (S25)) (w : World) (hr0 : Kd.C k25 w A0 l0.length l0) (hc0 : l0.length ≤ c0) (h : larchlaw06_few.f l0 = some r) :
  Calls Try.prog 15 #[.slice A0 l0.length c0] w fun e w' => ∃ v0_ : Value, e = .returned (v0_) ∧ Kd.R k25 25 w' w.heap.size (fun _ => True) v0_ r ∧ Below w.heap.size w w' := by
 have HR0 := asd hr0
 have HC0 := asd hc0
 clear hr0 hc0
 have HB := asd (Below.refl w.heap.size w)
 have H : ((some (([] : List (S25)) : List (S25))).bind fun y199 => (if 0 ≤ (mn (l0.length : Int) 300) then (if (mn (l0.length : Int) 300) ≤ (l0.length : Int) then ((some (l0.take ((mn (l0.length : Int) 300) : Int).toNat : List (S25))).bind fun y202 => (if y199.length + y202.length < 4398046511104 then (some (y199 ++ y202)) else (none))) else (none)) else (none))) = some r := h
 clear h
 obtain ⟨y199, hy199⟩ : ∃ y_ : List (S25), y_ = (([] : List (S25))) := ⟨_, rfl⟩
 replace H : (if 0 ≤ (mn (l0.length : Int) 300) then (if (mn (l0.length : Int) 300) ≤ (l0.length : Int) then ((some (l0.take ((mn (l0.length : Int) 300) : Int).toNat : List (S25))).bind fun y202 => (if y199.length + y202.length < 4398046511104 then (some (y199 ++ y202)) else (none))) else (none)) else (none)) = some r := by first | (rw [hy199]; with_reducible exact H) | (have H2_ := (Option.bind_some _ _).symm.trans H; rw [hy199]; with_reducible exact H2_) | (have H2_ := (Option.bind_some _ _).symm.trans H; with_reducible exact H2_) | with_reducible exact H | (rw [hy199]; exact H) | exact H
 have Ny199 := asd hy199
 clear hy199
 obtain ⟨ji2, hji2⟩ : ∃ j_ : Int, (mn (l0.length : Int) 300) = j_ := ⟨_, rfl⟩
 replace H : (if 0 ≤ (ji2) then (if (ji2) ≤ (l0.length : Int) then ((some (l0.take ((ji2) : Int).toNat : List (S25))).bind fun y202 => (if y199.length + y202.length < 4398046511104 then (some (y199 ++ y202)) else (none))) else (none)) else (none)) = some r := by first | (rw [hji2] at H; exact H) | (simp only [hji2] at H ⊢; exact H)
 (try (have hji2h : ji2 ≤ 300 := by (rw [← hji2]; unfold mn; (repeat' split) <;> omega)))
 (try (have hji2g : ji2 ≤ 64 := by omega))
 (try (have hji2l : 0 ≤ ji2 := by (rw [← hji2]; unfold mn; (repeat' split) <;> omega)))
 (try (have hji2m : 0 ≤ ji2 := by omega))
 have hji2_ : (if 300 < (l0.length : Int) then 300 else (l0.length : Int)) = ji2 := hji2
 by_cases c3 : 0 ≤ (ji2)
 ·
  rw [if_pos c3] at H
  have c3b0 := eq_true c3
  have c3b1 : decide (0 ≤ (ji2)) = true := decide_eq_true c3
  clear c3
  by_cases c4 : (ji2) ≤ (l0.length : Int)
  ·
   rw [if_pos c4] at H
   have c4b0 := eq_true c4
   have c4b1 : decide ((ji2) ≤ (l0.length : Int)) = true := decide_eq_true c4
   clear c4
   obtain ⟨y202, hy202⟩ : ∃ y_ : List (S25), y_ = (l0.take ((ji2) : Int).toNat) := ⟨_, rfl⟩
   replace H : (if y199.length + y202.length < 4398046511104 then (some (y199 ++ y202)) else (none)) = some r := by first | (rw [hy202]; with_reducible exact H) | (have H2_ := (Option.bind_some _ _).symm.trans H; rw [hy202]; with_reducible exact H2_) | (have H2_ := (Option.bind_some _ _).symm.trans H; with_reducible exact H2_) | with_reducible exact H | (rw [hy202]; exact H) | exact H
   have Ny202 := asd hy202
   clear hy202
   by_cases c5 : y199.length + y202.length < 4398046511104
   ·
    rw [if_pos c5] at H
    have LMc5 := asd c5
    clear c5
    obtain ⟨y206, hy206⟩ : ∃ y_ : List (S25), y_ = (y199 ++ y202) := ⟨_, rfl⟩
    replace H : (some y206) = some r := by first | (rw [hy206]; with_reducible exact H) | (have H2_ := (Option.bind_some _ _).symm.trans H; rw [hy206]; with_reducible exact H2_) | (have H2_ := (Option.bind_some _ _).symm.trans H; with_reducible exact H2_) | with_reducible exact H | (rw [hy206]; exact H) | exact H
    have Ny206 := asd hy206
    clear hy206
    obtain rfl := Option.some.inj H
    go_enter Try.func15, Try.ntmps15
    go_wp2_with (first | ((with_reducible refine gate_dst (N := 3) rfl ?_); refine Kd.R_lit k25 _ 25 ?hg (N := 3) ?hd (xs := ([] : List (S25))) (inner := []) (ok := fun _ => True) (okp := fun _ => True) ?hr ?hp (fun _ hk => hk) trivial (Below.refl _ _) (Nat.le_refl _) (by simp) ?_; (case hd => rfl); (case hg => rfl); (case hr => first | (go_simp; done) | (go_simp; rfl)); (case hp => exact (Reps.none _ _)); intro v200 w6 ho7 hb hg_ hnew_; clear hg_ hnew_; (first | rw [← Ny199.out] at ho7 | (simp only [Int.reduceToNat] at ho7; rw [← Ny199.out] at ho7)); have n0_ := asd (Kd.R_lower ho7 (below_size (skB HB.out))); have n1_ := asd (below_step (skB HB.out) hb); clear HB; have HO201 := n0_; have HB := n1_; clear n0_ n1_; clear hb ho7; have q8 : ((ji2) : Int) ≤ ((l0.length : Int) : Int) := dt; obtain ⟨i08, hi08, _, hsz8, _⟩ := info_parts info25; have hroom8 : l0.length ≤ c0 := HC0.out; have hC8 : Kd.C k25 _ A0 l0.length l0 := HR0.out; have hcut8 := cut_to (P := Try.prog) 23 25 .i64 Try.underlying23 hi08 A0 l0.length c0 (ji2) dt q8 hroom8; have hr8 := Kd.C_take (m := ((ji2) : Int).toNat) hC8 (by omega); have hy8 : y202.length = ((ji2) : Int).toNat := (by rw [Ny202.out, List.length_take]; omega); rw [← Ny202.out] at hr8; rw [← hy8] at hcut8; have HR205 := asd hr8; have HC205 := asd (show y202.length ≤ c0 from by omega); clear hr8 hC8 hroom8 hi08 hsz8; have KY8 := asd hy8; clear hy8; replace q8 := eq_true q8) | ((with_reducible refine gate_builtin (b := .append) (xs := #[.tmp 3, .tmp 8]) rfl ?_); at_builtin; refine Kd.R_append_rows k25 (w0 := w) w.heap.size rfl (.tmp 3) (.tmp 8) 23 25 (.agg #[(.int .i64 0), (.int .i64 0), (.int .i64 0), (.int .i64 0)]) 32 rfl Try.underlying23 info25 rfl (by decide) (by omega) v200 y199 y202 _ _ _ (fun _ => True) (fun _ => False) rfl rfl ?aO ?aR (fun _ _ h => h) (fun _ h => h.elim) ?aF ?aB ?aS ?aL ?_; (case aR => exact skC (Kd.C_below HR205.out HB.out)); (case aB => exact (skB HB.out)); (case aF => exact (fun _ _ => trivial)); (case aO => exact (skR HO201.out)); (case aS => exact (below_size (skB HB.out))); (case aL => have := LMc5.out; omega); intro v207 w9 ho hb hg hat; rw [← Ny206.out] at ho; have n0_ := asd (hb); have n1_ := asd (ho); clear HB; clear HO201; have HB := n0_; have HO208 := n1_; clear n0_ n1_; clear ho hb hg hat))
    go_ret
    exact ⟨_, by first | rfl | (simp [errW_none, errW_some] <;> rfl) | (simp only [← hji2]; first | rfl | (simp [errW_none, errW_some] <;> rfl)) | (simp [*, errW_none, errW_some] <;> rfl), skR HO208.out, skB HB.out⟩
   ·
    rw [if_neg c5] at H
    exact absurd H (by simp)
  ·
   rw [if_neg c4] at H
   exact absurd H (by simp)
 ·
  rw [if_neg c3] at H
  exact absurd H (by simp)
end Go.Proofs.Ytanlnfcjdjamaaa.P
