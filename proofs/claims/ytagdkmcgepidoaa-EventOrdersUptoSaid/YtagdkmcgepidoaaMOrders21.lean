/- P.eventOrders_holds, part 22 of 22: the contracts of the Go functions that the law calls, its own walk, and its plain law, for every input that the statement speaks of. -/
import Derived.Test.YtagdkmcgepidoaaMOrders19
import Derived.Test.YtagdkmcgepidoaaMOrders17
import Derived.Test.YtagdkmcgepidoaaMOrders20
import Derived.Test.YtagdkmcgepidoaaMOrders18
import Derived.Test.YtagdkmcgepidoaaMOrders4
import Derived.Test.YtagdkmcgepidoaaMOrders12
set_option linter.unusedVariables false
set_option linter.unusedSimpArgs false
/- P7 -/
namespace Go.Proofs.Ytagdkmcgepidoaa.P
open Go.RowKit Go.Proofs.YtagdkmcgepidoaaW.PrintWords Go.Proofs.YtagdkmcgepidoaaW.PrintLast Go.Proofs.YtagdkmcgepidoaaW.PrintMore
section
variable (xs : List S38)
def mask (i : Nat) : Nat → Nat → Nat → Nat
  | 0, _, acc => acc
  | d + 1, j, acc => mask i d (j + 1) (if aheadB (J38 xs (j : Int)) (J38 xs (i : Int)) = true then acc ||| 2 ^ j else acc)
theorem mask_bit (i : Nat) : ∀ d j acc t, (mask xs i d j acc).testBit t = (acc.testBit t || (decide (j ≤ t ∧ t < j + d) && aheadB (J38 xs (t : Int)) (J38 xs (i : Int))))
  | 0, j, acc, t => by
    unfold mask
    rw [decide_eq_false (by omega)]
    simp
  | d + 1, j, acc, t => by
    unfold mask
    rw [mask_bit i d (j + 1)]
    by_cases h : aheadB (J38 xs (j : Int)) (J38 xs (i : Int)) = true
    · rw [if_pos h, Nat.testBit_or, Nat.testBit_two_pow]
      by_cases e : j = t
      · subst e
        rw [decide_eq_true rfl, h, decide_eq_true (show j ≤ j ∧ j < j + (d + 1) by omega)]
        simp
      · rw [decide_eq_false e, Bool.or_false]
        congr 2
        exact decide_eq_decide.mpr (by omega)
    · rw [if_neg h]
      by_cases e : j = t
      · subst e
        have : aheadB (J38 xs (j : Int)) (J38 xs (j : Int)) = aheadB (J38 xs (j : Int)) (J38 xs (j : Int)) := rfl
        have h' : aheadB (J38 xs (j : Int)) (J38 xs (i : Int)) = false := by simpa using h
        rw [h', Bool.and_false, Bool.and_false]
      · congr 2
        exact decide_eq_decide.mpr (by omega)
theorem mask_lt (i : Nat) : ∀ d j acc, j + d ≤ 16 → acc < 65536 → mask xs i d j acc < 65536
  | 0, _, _, _, h => h
  | d + 1, j, acc, hj, h => by
    unfold mask
    refine mask_lt i d (j + 1) _ (by omega) ?_
    split
    · have : 2 ^ j < 2 ^ 16 := Nat.pow_lt_pow_right (by decide) (by omega)
      exact Nat.or_lt_two_pow (n := 16) (by omega) (by omega)
    · exact h
theorem bfJ_val (i : Nat) : ∀ d j (bf : List Int) (acc : Nat), j + d ≤ 16 → acc < 65536 → i < bf.length → rd bf (i : Int) = (acc : Int) → rd (bfJ xs i d j bf) (i : Int) = (mask xs i d j acc : Int) ∧ (bfJ xs i d j bf).length = bf.length ∧ ∀ q : Nat, q ≠ i → rd (bfJ xs i d j bf) (q : Int) = rd bf (q : Int)
  | 0, j, bf, acc, _, _, _, h => ⟨h, rfl, fun _ _ => rfl⟩
  | d + 1, j, bf, acc, hj, ha, hi, h => by
    have hp : 2 ^ j < 2 ^ 16 := Nat.pow_lt_pow_right (by decide) (by omega)
    unfold bfJ mask
    by_cases hh : aheadB (J38 xs (j : Int)) (J38 xs (i : Int)) = true
    · rw [if_pos hh, if_pos hh, h, wrap_pow j (by omega), or64 _ _ (by omega) (by omega)]
      have hs := rd_set bf (i : Int)
      simp only [Int.toNat_natCast] at hs
      obtain ⟨a, b, c⟩ := bfJ_val i d (j + 1) (bf.set i ((acc ||| 2 ^ j : Nat) : Int)) (acc ||| 2 ^ j) (by omega) (Nat.or_lt_two_pow (n := 16) (by omega) (by omega)) (by simpa using hi) (by rw [hs _ _ (by omega) (by omega), if_pos rfl])
      refine ⟨a, by simpa using b, fun q hq => ?_⟩
      rw [c q hq, hs _ _ (by omega) (by omega), if_neg (by omega)]
    · rw [if_neg hh, if_neg hh]
      exact bfJ_val i d (j + 1) bf acc (by omega) ha hi h
theorem bfI_val : ∀ d i (bf : List Int), i + d = xs.length → xs.length ≤ 16 → bf.length = xs.length → (∀ q : Nat, q < xs.length → rd bf (q : Int) = if q < i then (mask xs q xs.length 0 0 : Int) else 0) → ∀ q : Nat, q < xs.length → rd (bfI xs d i bf) (q : Int) = (mask xs q xs.length 0 0 : Int)
  | 0, i, bf, hd, _, _, h => fun q hq => by
    unfold bfI
    rw [h q hq, if_pos (by omega)]
  | d + 1, i, bf, hd, h16, hl, h => by
    unfold bfI
    obtain ⟨a, b, c⟩ := bfJ_val xs i xs.length 0 bf 0 (by omega) (by omega) (by omega) (by rw [h i (by omega), if_neg (by omega)]; rfl)
    refine bfI_val d (i + 1) _ (by omega) h16 (by rw [b, hl]) fun q hq => ?_
    by_cases e : q = i
    · rw [e, if_pos (by omega)]
      exact a
    · rw [c q e, h q hq]
      by_cases e2 : q < i
      · rw [if_pos e2, if_pos (by omega)]
      · rw [if_neg e2, if_neg (by omega)]
def alK (s i : Nat) : Nat → Nat → Bool
  | 0, _ => true
  | d + 1, k => (k == i || (s.testBit k || !aheadB (J38 xs (k : Int)) (J38 xs (i : Int)))) && alK s i d (k + 1)
theorem alK_succ (s i d k : Nat) : alK xs s i (d + 1) k = ((k == i || (s.testBit k || !aheadB (J38 xs (k : Int)) (J38 xs (i : Int)))) && alK xs s i d (k + 1)) := rfl
def okS (s i : Nat) : Bool := !s.testBit i && alK xs s i xs.length 0
def dpJ (s : Nat) : Nat → Nat → List Int → List Int
  | 0, _, ws => ws
  | d + 1, i, ws => dpJ s d (i + 1) (if okS xs s i = true then ws.set (s ||| 2 ^ i) (wrap64 (rd ws ((s ||| 2 ^ i : Nat) : Int) + rd ws (s : Int))) else ws)
def dpS : Nat → Nat → List Int → List Int
  | 0, _, ws => ws
  | d + 1, s, ws => dpS d (s + 1) (if rd ws (s : Int) = 0 then ws else dpJ xs s xs.length 0 ws)
theorem dpJ_len (s : Nat) : ∀ d i ws, (dpJ xs s d i ws).length = ws.length
  | 0, _, _ => rfl
  | d + 1, i, ws => by
    unfold dpJ
    rw [dpJ_len s d]
    split <;> simp
theorem alK_iff (s i : Nat) : ∀ d k, alK xs s i d k = true ↔ ∀ t, k ≤ t → t < k + d → t = i ∨ s.testBit t = true ∨ aheadB (J38 xs (t : Int)) (J38 xs (i : Int)) = false
  | 0, k => ⟨fun _ t a b => by omega, fun _ => rfl⟩
  | d + 1, k => by
    unfold alK
    rw [Bool.and_eq_true, alK_iff s i d (k + 1)]
    constructor
    · rintro ⟨h1, h2⟩ t a b
      by_cases e : t = k
      · subst e
        simp only [Bool.or_eq_true, beq_iff_eq, Bool.not_eq_true'] at h1
        exact h1
      · exact h2 t (by omega) (by omega)
    · intro h
      refine ⟨?_, fun t a b => h t (by omega) (by omega)⟩
      simp only [Bool.or_eq_true, beq_iff_eq, Bool.not_eq_true']
      exact h k (Nat.le_refl _) (by omega)
theorem wyOk_val (h16 : xs.length ≤ 16) (hself : ∀ i : Nat, i < xs.length → aheadB (J38 xs (i : Int)) (J38 xs (i : Int)) = false) (bf : List Int) (hbf : ∀ q : Nat, q < xs.length → rd bf (q : Int) = (mask xs q xs.length 0 0 : Int)) (s i : Nat) (hs : s < 2 ^ xs.length) (hi : i < xs.length) : wyOk bf s i = okS xs s i := by
  have hs' : s < 65536 := Nat.lt_of_lt_of_le hs (pow16 _ h16)
  have hm := mask_lt xs i xs.length 0 0 (by omega) (by omega)
  unfold wyOk okS
  rw [bit_val s i hs', hbf i hi]
  by_cases hb : s.testBit i = true
  · rw [if_pos hb, hb]
    rfl
  · have hb' : s.testBit i = false := by simpa using hb
    rw [if_neg hb, hb', decide_eq_true rfl, Bool.true_and, Bool.not_false, Bool.true_and]
    apply Bool.eq_iff_iff.mpr
    rw [beq_iff_eq, andNot64 _ _ (by omega) (by omega), alK_iff]
    constructor
    · intro h t _ ht
      by_cases e : aheadB (J38 xs (t : Int)) (J38 xs (i : Int)) = true
      · refine .inr (.inl (h t ?_))
        rw [mask_bit, e, decide_eq_true (by omega)]
        simp
      · exact .inr (.inr (by simpa using e))
    · intro h t ht
      rw [mask_bit, Nat.zero_testBit, Bool.false_or, Bool.and_eq_true] at ht
      have hlt := of_decide_eq_true ht.1
      rcases h t (by omega) (by omega) with e | e | e
      · rw [e, hself i hi] at ht
        cases ht.2
      · exact e
      · rw [e] at ht
        cases ht.2
theorem or_lt (s i : Nat) (hs : s < 2 ^ xs.length) (hi : i < xs.length) : s ||| 2 ^ i < 2 ^ xs.length := Nat.or_lt_two_pow hs (Nat.pow_lt_pow_right (by decide) hi)
theorem wyT_val (h16 : xs.length ≤ 16) (s i : Nat) (hs : s < 2 ^ xs.length) (hi : i < xs.length) : wyT s i = ((s ||| 2 ^ i : Nat) : Int) := by
  have := pow16 xs.length h16
  have := pow16 i (by omega)
  unfold wyT
  rw [wrap_pow i (by omega), or64 _ _ (by omega) (by omega)]
theorem wyJ_val (h16 : xs.length ≤ 16) (hself : ∀ i : Nat, i < xs.length → aheadB (J38 xs (i : Int)) (J38 xs (i : Int)) = false) (bf : List Int) (hbf : ∀ q : Nat, q < xs.length → rd bf (q : Int) = (mask xs q xs.length 0 0 : Int)) (s : Nat) (hs : s < 2 ^ xs.length) : ∀ d i (ws : List Int), i + d = xs.length → ws.length = 2 ^ xs.length → wyJ bf s d i ws = some (dpJ xs s d i ws)
  | 0, _, _, _, _ => rfl
  | d + 1, i, ws, hd, hl => by
    have hlt := or_lt xs s i hs (by omega)
    unfold wyJ dpJ
    rw [wyOk_val xs h16 hself bf hbf s i hs (by omega), wyT_val xs h16 s i hs (by omega)]
    by_cases ho : okS xs s i = true
    · rw [if_pos ho, if_pos ho, if_pos (by omega), Int.toNat_natCast]
      exact wyJ_val h16 hself bf hbf s hs d (i + 1) _ (by omega) (by simpa using hl)
    · rw [if_neg ho, if_neg ho]
      exact wyJ_val h16 hself bf hbf s hs d (i + 1) _ (by omega) hl
theorem wyS_val (h16 : xs.length ≤ 16) (hself : ∀ i : Nat, i < xs.length → aheadB (J38 xs (i : Int)) (J38 xs (i : Int)) = false) (bf : List Int) (hbf : ∀ q : Nat, q < xs.length → rd bf (q : Int) = (mask xs q xs.length 0 0 : Int)) : ∀ d s (ws : List Int), s + d = 2 ^ xs.length → ws.length = 2 ^ xs.length → wyS xs.length bf d s ws = some (dpS xs d s ws)
  | 0, _, _, _, _ => rfl
  | d + 1, s, ws, hd, hl => by
    unfold wyS dpS
    by_cases hz : rd ws (s : Int) = 0
    · rw [if_pos hz, if_pos hz]
      exact wyS_val h16 hself bf hbf d (s + 1) ws (by omega) hl
    · rw [if_neg hz, if_neg hz, wyJ_val xs h16 hself bf hbf s (by omega) xs.length 0 ws (by omega) hl]
      exact wyS_val h16 hself bf hbf d (s + 1) _ (by omega) (by rw [dpJ_len, hl])
theorem ref_l3 (h16 : xs.length ≤ 16) (ht : ∀ x ∈ xs, x.f4 = -1 ∨ 0 ≤ x.f4) (s i : Nat) (hs : s < 2 ^ xs.length) (hi : i < xs.length) (ws : List Int) (hl : ws.length = 2 ^ xs.length) (v : Int × Int) : ∀ d (k : Nat) (fst : Bool), k + d = xs.length →
    Ev (fun q => larchref05_Orders.l2 q (xs.map conv) (xs.length : Int) (if (fst && alK xs s i d k) = true then ws.set (s ||| 2 ^ i) (wrap64 (rd ws ((s ||| 2 ^ i : Nat) : Int) + rd ws (s : Int))) else ws) (s : Int) (((i + 1 : Nat)) : Int)) v →
    Ev (fun q => larchref05_Orders.l3 q (xs.map conv) (xs.length : Int) ws (s : Int) (i : Int) fst (k : Int)) v
  | 0, k, fst, hd, h => by
    have hlt := or_lt xs s i hs hi
    have hM := pow16 xs.length h16
    have hp := pow16 i (by omega)
    refine Ev.succ (h.congr fun q => ?_)
    simp only [larchref05_Orders.l3]
    rw [if_neg (by omega)]
    unfold alK
    rw [Bool.and_true]
    cases fst with
    | true => 
      rw [if_pos rfl, shl_val i (by omega), or64 _ _ (by omega) (by omega), if_pos (by omega), if_pos (by omega), if_pos (by omega), if_pos (by omega), if_pos (by omega), if_pos rfl, wrap_succ (by omega), Int.toNat_natCast]
    | false =>
      rw [if_neg (by decide), if_neg (by decide), wrap_succ (by omega)]
  | d + 1, k, fst, hd, h => by
    have hs' : s < 65536 := Nat.lt_of_lt_of_le hs (pow16 _ h16)
    have hbv := before_val xs ht (k : Int) (i : Int) ⟨by omega, by omega⟩ ⟨by omega, by omega⟩
    by_cases e : k = i
    · have h' := ref_l3 h16 ht s i hs hi ws hl v d (k + 1) fst (by omega) (h.congr fun q => by
        rw [alK_succ, show (k == i) = true by simpa using e, Bool.true_or, Bool.true_and])
      refine Ev.succ (h'.congr fun q => ?_)
      simp only [larchref05_Orders.l3]
      rw [if_pos (by omega), if_pos (by omega), wrap_succ (by omega)]
    · have hke : (k == i) = false := by simpa using e
      by_cases hb : s.testBit k = true
      · have h' := ref_l3 h16 ht s i hs hi ws hl v d (k + 1) fst (by omega) (h.congr fun q => by
          rw [alK_succ, hke, hb, Bool.true_or, Bool.or_true, Bool.true_and])
        refine Ev.succ (h'.congr fun q => ?_)
        simp only [larchref05_Orders.l3]
        rw [if_pos (by omega), if_neg (by omega), if_pos (by omega), shr_val s k (by omega), bit_val s k hs', if_pos hb, if_neg (by decide), wrap_succ (by omega)]
      · have hb' : s.testBit k = false := by simpa using hb
        by_cases ha : aheadB (J38 xs (k : Int)) (J38 xs (i : Int)) = true
        · have h' := ref_l3 h16 ht s i hs hi ws hl v d (k + 1) false (by omega) (h.congr fun q => by
            unfold alK
            rw [hke, hb', ha]
            simp)
          refine Ev.succ (h'.congr fun q => ?_)
          simp only [larchref05_Orders.l3]
          rw [if_pos (by omega), if_neg (by omega), if_pos (by omega), shr_val s k (by omega), bit_val s k hs', if_neg hb, if_pos rfl, hbv]
          simp only [Option.bind_some]
          rw [if_pos ha, wrap_succ (by omega)]
        · have ha' : aheadB (J38 xs (k : Int)) (J38 xs (i : Int)) = false := by simpa using ha
          have h' := ref_l3 h16 ht s i hs hi ws hl v d (k + 1) fst (by omega) (h.congr fun q => by
            rw [alK_succ, hke, hb', ha', Bool.false_or, Bool.false_or, Bool.not_false, Bool.true_and])
          refine Ev.succ (h'.congr fun q => ?_)
          simp only [larchref05_Orders.l3]
          rw [if_pos (by omega), if_neg (by omega), if_pos (by omega), shr_val s k (by omega), bit_val s k hs', if_neg hb, if_pos rfl, hbv]
          simp only [Option.bind_some]
          rw [if_neg ha, wrap_succ (by omega)]
theorem ref_l2 (h16 : xs.length ≤ 16) (ht : ∀ x ∈ xs, x.f4 = -1 ∨ 0 ≤ x.f4) (s : Nat) (hs : s < 2 ^ xs.length) (v : Int × Int) : ∀ d (i : Nat) (ws : List Int), i + d = xs.length → ws.length = 2 ^ xs.length →
    Ev (fun q => larchref05_Orders.l1 q (xs.map conv) (xs.length : Int) (dpJ xs s d i ws) (((s + 1 : Nat)) : Int)) v → Ev (fun q => larchref05_Orders.l2 q (xs.map conv) (xs.length : Int) ws (s : Int) (i : Int)) v
  | 0, i, ws, hd, hl, h => by
    have hM := pow16 xs.length h16
    refine Ev.succ (h.congr fun q => ?_)
    simp only [larchref05_Orders.l2]
    rw [if_neg (by omega), wrap_succ (by omega)]
    rfl
  | d + 1, i, ws, hd, hl, h => by
    have hs' : s < 65536 := Nat.lt_of_lt_of_le hs (pow16 _ h16)
    unfold dpJ at h
    have h' := ref_l2 h16 ht s hs v d (i + 1) _ (by omega) (by split <;> simp [hl]) h
    by_cases hb : s.testBit i = true
    · have ho : ¬ (okS xs s i = true) := by unfold okS; rw [hb]; simp
      rw [if_neg ho] at h'
      refine Ev.succ (h'.congr fun q => ?_)
      simp only [larchref05_Orders.l2]
      rw [if_pos (by omega), if_pos (by omega), shr_val s i (by omega), bit_val s i hs', if_pos hb, if_pos rfl, wrap_succ (by omega)]
    · have hb' : s.testBit i = false := by simpa using hb
      have ho : okS xs s i = (true && alK xs s i xs.length 0) := by unfold okS; rw [hb']; rfl
      rw [ho] at h'
      refine Ev.succ ((ref_l3 xs h16 ht s i hs (by omega) ws hl v xs.length 0 true (by omega) h').congr fun q => ?_)
      simp only [larchref05_Orders.l2]
      rw [if_pos (by omega), if_pos (by omega), shr_val s i (by omega), bit_val s i hs', if_neg hb, if_neg (by decide)]
      rfl
theorem ref_l1 (h16 : xs.length ≤ 16) (ht : ∀ x ∈ xs, x.f4 = -1 ∨ 0 ≤ x.f4) : ∀ d (s : Nat) (ws : List Int), s + d = 2 ^ xs.length → ws.length = 2 ^ xs.length →
    Ev (fun q => larchref05_Orders.l1 q (xs.map conv) (xs.length : Int) ws (s : Int)) (rd (dpS xs d s ws) ((2 ^ xs.length - 1 : Nat) : Int), 0)
  | 0, s, ws, hd, hl => by
    have hM := pow16 xs.length h16
    have h0 : 0 < 2 ^ xs.length := Nat.pow_pos (by decide)
    have hw : wrap64 (((2 ^ xs.length : Nat) : Int) - 1) = ((2 ^ xs.length - 1 : Nat) : Int) := by unfold wrap64; omega
    refine Ev.succ ((Ev.const _).congr fun q => ?_)
    simp only [larchref05_Orders.l1, dpS]
    rw [if_pos (by omega), shl_val xs.length h16, if_neg (by omega), hw, if_pos (by omega), if_pos (by omega)]
  | d + 1, s, ws, hd, hl => by
    have hM := pow16 xs.length h16
    unfold dpS
    by_cases hz : rd ws (s : Int) = 0
    · rw [if_pos hz]
      refine Ev.succ ((ref_l1 h16 ht d (s + 1) ws (by omega) hl).congr fun q => ?_)
      simp only [larchref05_Orders.l1]
      rw [if_pos (by omega), shl_val xs.length h16, if_pos (by omega), if_pos (by omega), if_pos (by omega), if_pos hz, wrap_succ (by omega)]
    · rw [if_neg hz]
      refine Ev.succ ((ref_l2 xs h16 ht s (by omega) _ xs.length 0 ws (by omega) hl (ref_l1 h16 ht d (s + 1) _ (by omega) (by rw [dpJ_len, hl]))).congr fun q => ?_)
      simp only [larchref05_Orders.l1]
      rw [if_pos (by omega), shl_val xs.length h16, if_pos (by omega), if_pos (by omega), if_pos (by omega), if_neg hz]
      rfl
end
theorem ref_l0 (r : List S38) (hr : r.length ≤ 100000) (ht : ∀ x ∈ r, x.f4 = -1 ∨ 0 ≤ x.f4) (v : Int × Int) (hv : Ev (fun q => larchref05_Orders.l0 q (r.map conv) ((donL r).map conv) (r.length : Int)) v) : ∀ d (j : Nat), j + d = r.length → Ev (fun q => larchref05_Orders.l0 q (r.map conv) ((donL (r.take j)).map conv) (j : Int)) v
  | 0, j, hd => by
    have : j = r.length := by omega
    subst this
    rw [List.take_length]
    exact hv
  | d + 1, j, hd => by
    have ih := ref_l0 r hr ht v hv d (j + 1) (by omega)
    have hlen : (donL (r.take j)).length ≤ j := by
      refine Nat.le_trans (List.length_filter_le _ _) ?_
      rw [List.length_take]
      omega
    rw [don_take r j (by omega)] at ih
    have hrd : J76 (r.map conv) (j : Int) = conv (J38 r (j : Int)) := rd76_map r (j : Int) ⟨by omega, by omega⟩
    have c4 : (conv (J38 r (j : Int))).f4 = (J38 r (j : Int)).f4 := rfl
    have h4 := ht _ (rd38_mem' r (j : Int) ⟨by omega, by omega⟩)
    by_cases hp : pendB (J38 r (j : Int)) = true
    · rw [if_pos hp, List.append_nil] at ih
      have hp' : (J38 r (j : Int)).f4 < 0 := of_decide_eq_true hp
      refine Ev.succ (ih.congr fun q => ?_)
      simp only [larchref05_Orders.l0, List.length_map, hrd, c4]
      rw [if_pos (by omega), if_pos (by omega), if_pos (by omega), wrap_succ (by omega)]
    · rw [if_neg hp] at ih
      have hp' : ¬ (J38 r (j : Int)).f4 < 0 := fun h => hp (decide_eq_true h)
      refine Ev.succ (ih.congr fun q => ?_)
      simp only [larchref05_Orders.l0, List.length_map, hrd]
      rw [c4, if_pos (by omega), if_pos (by omega), if_neg (by omega), if_pos (by omega), wrap_succ (by omega), List.map_append]
      rfl
theorem orders_both (l0 : List S67) (hp : ∀ e ∈ l0, e.f3.f3.length ≤ 1048576) : ∃ (n c : Int), event_Orders.f l0 = some (n, c) ∧ Ev (fun k => larchref05_Orders.f k l0) (n, c) := by
  obtain ⟨c, hE, hR, -⟩ := check_both l0
  by_cases e0 : c = 0
  rotate_left
  · obtain ⟨hA, hB⟩ := bad_of l0 c hE e0
    refine ⟨0, c, ?_, ?_⟩
    · unfold event_Orders.f
      rw [hA]
      simp only [Option.bind_some, if_neg e0]
    · unfold larchref05_Orders.f
      refine Ev.bind hB ?_
      simp only [if_neg e0]
      exact Ev.const _
  subst e0
  obtain ⟨hl, hchk, r, own, hA, hB, hC, hr, hO, hG⟩ := all_of l0 hp hE
  obtain ⟨xs, hxs⟩ : ∃ xs, xs = donL r := ⟨_, rfl⟩
  have htr : ∀ x ∈ r, x.f4 = -1 ∨ 0 ≤ x.f4 := by
    intro x hx
    obtain ⟨i, hi, rfl⟩ := List.mem_iff_getElem.1 hx
    rw [rd38_get r i hi]
    rcases hO.tw (i : Int) (by omega) (by omega) with h | h
    · exact .inl h
    · exact .inr h.1.1
  have hlr : ∀ x ∈ r, x.f4 = -1 ∨ x.f3 < x.f4 := by
    intro x hx
    obtain ⟨i, hi, rfl⟩ := List.mem_iff_getElem.1 hx
    rw [rd38_get r i hi]
    exact hO.lt (i : Int) (by omega) (by omega)
  have hsub : ∀ x ∈ xs, x ∈ r := fun x hx => by
    rw [hxs] at hx
    exact (List.mem_filter.1 hx).1
  have htx : ∀ x ∈ xs, x.f4 = -1 ∨ 0 ≤ x.f4 := fun x hx => htr x (hsub x hx)
  have hself : ∀ i : Nat, i < xs.length → aheadB (J38 xs (i : Int)) (J38 xs (i : Int)) = false := by
    intro i hi
    have hm := hsub _ (rd38_mem' xs (i : Int) ⟨by omega, by omega⟩)
    unfold aheadB
    rcases hlr _ hm with h | h
    · rw [decide_eq_false (by omega), Bool.false_and]
    · rw [decide_eq_false (show ¬ (J38 xs (i : Int)).f4 < (J38 xs (i : Int)).f3 by omega), Bool.and_false]
  by_cases h16 : xs.length > 16
  · refine ⟨0, 2, ?_, ?_⟩
    · unfold event_Orders.f
      rw [hA]
      simp only [Option.bind_some, if_true, ← hxs]
      rw [if_pos h16]
    · unfold larchref05_Orders.f
      refine Ev.bind hB ?_
      simp only [if_true]
      refine (ref_l0 r (by omega) htr (0, 2) (Ev.succ ((Ev.const _).congr fun q => ?_)) r.length 0 (by omega)).congr fun q => rfl
      simp only [larchref05_Orders.l0, List.length_map, ← hxs]
      rw [if_neg (by omega), if_pos (by omega)]
  · have h16' : xs.length ≤ 16 := by omega
    have hM := pow16 xs.length h16'
    have h0 : 0 < 2 ^ xs.length := Nat.pow_pos (by decide)
    have hbf := bfI_val xs xs.length 0 (List.replicate xs.length 0) (by omega) h16' (by simp) (fun q hq => by
      rw [if_neg (by omega)]
      unfold rd
      rw [List.getD_eq_getElem?_getD, List.getElem?_replicate]
      split <;> rfl)
    refine ⟨rd (dpS xs (2 ^ xs.length) 0 ((List.replicate (2 ^ xs.length) 0).set 0 1)) ((2 ^ xs.length - 1 : Nat) : Int), 0, ?_, ?_⟩
    · unfold event_Orders.f
      rw [hA]
      simp only [Option.bind_some, if_true, ← hxs]
      rw [if_neg h16, wyS_val xs h16' hself _ hbf (2 ^ xs.length) 0 _ (by omega) (by simp)]
      rfl
    · unfold larchref05_Orders.f
      refine Ev.bind hB ?_
      simp only [if_true]
      refine (ref_l0 r (by omega) htr _ (Ev.succ ((ref_l1 xs h16' htx (2 ^ xs.length) 0 ((List.replicate (2 ^ xs.length) 0).set 0 1) (by omega) (by simp)).congr fun q => ?_)) r.length 0 (by omega)).congr fun q => rfl
      simp only [larchref05_Orders.l0, List.length_map, ← hxs]
      rw [if_neg (by omega), if_neg (by omega), shl_val xs.length h16', if_pos (by omega), if_pos (by omega)]
      simp only [Option.bind_some]
      rw [if_pos (by rw [Int.toNat_natCast, List.length_replicate]; omega)]
      rfl
theorem orders_pure : EventOrdersPure := by
  intro l0 l1 hl0 hp hl1
  refine Ev.ex (f := fun k => larchlaw05_EventOrders.f k l0 l1) ?_
  unfold larchlaw05_EventOrders.f
  rw [known_ok3]
  simp only [Option.bind_some, if_true]
  obtain ⟨b, c, hA, hB⟩ := fits_both l0 hp l1 hl1
  refine Ev.bind hB (Ev.bind hA ?_)
  obtain ⟨n, e, hC, hD⟩ := orders_both l0 hp
  have main : Ev (fun k => larchlaw05_EventOrders.j0 k l0 false) true := by
    refine Ev.succ (Ev.congr (g := fun k => (larchref05_Orders.f k l0).bind fun t => if t.1 = n then some (t.2 == e) else none) ?_ fun k => ?_)
    · refine Ev.bind hD ?_
      simp only [if_true, beq_self_eq_true]
      exact Ev.const _
    · simp only [larchlaw05_EventOrders.j0]
      rw [if_neg (by decide), hC]
      rfl
  refine main.congr fun k => ?_
  simp
theorem eventOrders_holds : Rows.EventOrdersUptoSaid := EventOrders_of orders_pure
end Go.Proofs.Ytagdkmcgepidoaa.P
#print axioms Go.Proofs.Ytagdkmcgepidoaa.P.eventOrders_holds
