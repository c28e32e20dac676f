/- P.weighMemory_holds, part 19 of 28: the contracts of the Go functions that the law calls, its own walk, and its plain law, for every input that the statement speaks of. -/
import Derived.Test.YtmmjkebboonnkaaMMe17
import Derived.Outline
import Derived.Test.YtmmjkebboonnkaaMMe15
set_option linter.unusedVariables false
set_option linter.unusedSimpArgs false
/- E4 -/
namespace Go.Proofs.Ytmmjkebboonnkaa.P
open Go.RowKit Go.Proofs.YtmmjkebboonnkaaW.PrintWords Go.Proofs.YtmmjkebboonnkaaW.PrintLast Go.Proofs.YtmmjkebboonnkaaW.PrintMore
theorem weigh_Reds.mono : ∀ a0 k, LeO (weigh_Reds.f k a0) (weigh_Reds.f (k + 1) a0) := by
  intro a0 k
  unfold weigh_Reds.f pickedF
  exact LeO.bind (weigh_keys.mono a0 k) (fun _ => LeO.refl _)
set_option maxHeartbeats 8000000 in
set_option maxRecDepth 100000 in
theorem weigh_Reds.calls (k : Nat) (A0 : Option Addr) (c0 : Nat) (l0 : List (S49)) (r1 : List Int) (r2 : Int) (w : World) (hr0 : Kd.C k49 w A0 l0.length l0) (hc0 : l0.length ≤ c0) (h : weigh_Reds.f k l0 = some (r1, r2)) :
    Calls Try.prog 9 #[.slice A0 l0.length c0] w fun e w' => ∃ v0_ : Value, e = .returned (.tuple #[v0_, .int .i64 r2]) ∧ Kd.R (Kd.int .i64) 3 w' w.heap.size (fun _ => True) v0_ r1 ∧ Below w.heap.size w w' := by
  have hmf : ∀ (fn : Fn) (first cap : Array Value) (w : World), (Instr.makeFunc fn first cap).run Try.prog w = .ok (.func fn first cap) w := fun _ _ _ _ => rfl
  have H := Aside0.mk h
  clear h
  have hba : Below w.heap.size w (w.alloc (.cells #[.slice A0 l0.length c0] 22)) := below_alloc (Below.refl _ _) _
  have HCL := Aside0.mk (show ∀ (at_ p : Int) (b : Bool) (W : World), Below (w.alloc (.cells #[.slice A0 l0.length c0] 22)).heap.size (w.alloc (.cells #[.slice A0 l0.length c0] 22)) W → redIs l0 at_ p = some b → Calls Try.prog 45 #[.int .i64 at_, .int .i64 p, .pointer (some ⟨w.heap.size, 0, none⟩)] W fun e W' => e = .returned (.bool b) ∧ W = W' from
    fun at_ p b W hb hi => red1_calls l0 at_ p b A0 c0 w.heap.size W (Kd.C_below (Kd.C_below hr0 hba) hb) ((hb.cell (p := ⟨w.heap.size, 0, none⟩) (by simp)).trans (by simp)) hi)
  have HBA := Aside0.mk hba
  clear hba
  go_enter Try.func9, Try.ntmps9
  go_wp2_with fail
  refine (picked_calls 45 (.inl rfl) (redIs l0) (.pointer (some ⟨w.heap.size, 0, none⟩)) k A0 c0 l0 r1 r2 _ ?s1 ?s2 HCL.out H.out).mono ?_
  case s1 => exact Kd.C_below hr0 HBA.out
  case s2 => exact hc0
  rintro e w' ⟨v0, rfl, ho, hb⟩
  go_wp2
  go_ret2
  exact ⟨_, rfl, Kd.R_lower ho HBA.out.size, below_step HBA.out hb⟩
theorem weigh_Overs.mono : ∀ a0 k, LeO (weigh_Overs.f k a0) (weigh_Overs.f (k + 1) a0) := by
  intro a0 k
  unfold weigh_Overs.f pickedF
  exact LeO.bind (weigh_keys.mono a0 k) (fun _ => LeO.refl _)
set_option maxHeartbeats 8000000 in
set_option maxRecDepth 100000 in
theorem weigh_Overs.calls (k : Nat) (A0 : Option Addr) (c0 : Nat) (l0 : List (S49)) (r1 : List Int) (r2 : Int) (w : World) (hr0 : Kd.C k49 w A0 l0.length l0) (hc0 : l0.length ≤ c0) (h : weigh_Overs.f k l0 = some (r1, r2)) :
    Calls Try.prog 13 #[.slice A0 l0.length c0] w fun e w' => ∃ v0_ : Value, e = .returned (.tuple #[v0_, .int .i64 r2]) ∧ Kd.R (Kd.int .i64) 3 w' w.heap.size (fun _ => True) v0_ r1 ∧ Below w.heap.size w w' := by
  have hmf : ∀ (fn : Fn) (first cap : Array Value) (w : World), (Instr.makeFunc fn first cap).run Try.prog w = .ok (.func fn first cap) w := fun _ _ _ _ => rfl
  have H := Aside0.mk h
  clear h
  have hba : Below w.heap.size w (w.alloc (.cells #[.slice A0 l0.length c0] 22)) := below_alloc (Below.refl _ _) _
  have HCL := Aside0.mk (show ∀ (at_ p : Int) (b : Bool) (W : World), Below (w.alloc (.cells #[.slice A0 l0.length c0] 22)).heap.size (w.alloc (.cells #[.slice A0 l0.length c0] 22)) W → overIs l0 at_ p = some b → Calls Try.prog 48 #[.int .i64 at_, .int .i64 p, .pointer (some ⟨w.heap.size, 0, none⟩)] W fun e W' => e = .returned (.bool b) ∧ W = W' from
    fun at_ p b W hb hi => over1_calls l0 at_ p b A0 c0 w.heap.size W (Kd.C_below (Kd.C_below hr0 hba) hb) ((hb.cell (p := ⟨w.heap.size, 0, none⟩) (by simp)).trans (by simp)) hi)
  have HBA := Aside0.mk hba
  clear hba
  go_enter Try.func13, Try.ntmps13
  go_wp2_with fail
  refine (picked_calls 48 (.inr rfl) (overIs l0) (.pointer (some ⟨w.heap.size, 0, none⟩)) k A0 c0 l0 r1 r2 _ ?s1 ?s2 HCL.out H.out).mono ?_
  case s1 => exact Kd.C_below hr0 HBA.out
  case s2 => exact hc0
  rintro e w' ⟨v0, rfl, ho, hb⟩
  go_wp2
  go_ret2
  exact ⟨_, rfl, Kd.R_lower ho HBA.out.size, below_step HBA.out hb⟩
end Go.Proofs.Ytmmjkebboonnkaa.P
