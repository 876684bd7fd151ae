/- The walks of bytes256: One, Of, Or, Not: sets as numbers. -/
import Derived.Test.YtldmdlkjpdfonaaRxW4
namespace Go.Proofs.Ytldmdlkjpdfonaa
set_option linter.unusedVariables false
set_option linter.unusedSimpArgs false
open Go Go.RowKit

/-- The i-th word, as a number. -/
def wdN (s i : Nat) : Nat := s / 2 ^ (64 * i) % 2 ^ 64
theorem wd_eq (s i : Nat) : wd s i = (wdN s i : Int) := rfl
theorem wdN_lt (s i : Nat) : wdN s i < 2 ^ 64 := Nat.mod_lt _ (by decide)
theorem wdN_bit (s i j : Nat) : (wdN s i).testBit j = (decide (j < 64) && s.testBit (64 * i + j)) := by
  unfold wdN
  rw [Nat.testBit_mod_two_pow, Nat.testBit_div_two_pow, Nat.add_comm]
theorem wdN_or (s t i : Nat) : wdN (s ||| t) i = wdN s i ||| wdN t i := by
  apply Nat.eq_of_testBit_eq
  intro j
  rw [Nat.testBit_or, wdN_bit, wdN_bit, wdN_bit, Nat.testBit_or]
  cases decide (j < 64) <;> simp
theorem bits_or (a b : Nat) (ha : a < 2 ^ 64) (hb : b < 2 ^ 64) : bits .or .u64 (a : Int) (b : Int) = ((a ||| b : Nat) : Int) := by
  show IntKind.u64.wrap ((BitVec.ofInt 64 (a : Int) ||| BitVec.ofInt 64 (b : Int)).toNat : Int) = _
  rw [BitVec.toNat_or, ofInt_u64 a ha, ofInt_u64 b hb]
  have := Nat.or_lt_two_pow ha hb
  rw [IntWalk.u64_in] <;> omega
theorem wdN_pow (k i : Nat) : wdN (2 ^ k) i = if k / 64 = i then 2 ^ (k % 64) else 0 := by
  apply Nat.eq_of_testBit_eq
  intro j
  rw [wdN_bit]
  split
  · rename_i h
    rw [Nat.testBit_two_pow, Nat.testBit_two_pow]
    by_cases hj : j < 64
    · simp only [hj, decide_true, Bool.true_and, decide_eq_decide]; omega
    · have : ¬ k % 64 = j := by omega
      simp [hj, this]
  · rename_i h
    rw [Nat.testBit_two_pow, Nat.zero_testBit]
    by_cases hj : j < 64
    · have : ¬ k = 64 * i + j := by omega
      simp [this]
    · simp [hj]
def setA (s : Nat) : Array Value := #[.int .u64 (wd s 0), .int .u64 (wd s 1), .int .u64 (wd s 2), .int .u64 (wd s 3)]
theorem infoSet : (Try.prog.info? 35).map (·.size) = some 4 := by kernel_rfl
theorem setA_one (s : Nat) : (setA s).all (·.oneCell') = true := by simp [setA, Value.oneCell']
def SetV : World → Value → Nat → Prop := fun _ v s => v = .agg (setA s)

theorem one_cells {c : Int} {q : Int} (h0 : 0 ≤ c) (h1 : c < 256) (hq : c / 64 = q) :
    #[.int .u64 (if q = 0 then IntKind.u64.wrap (2 ^ (c % 64).toNat) else 0), .int .u64 (if q = 1 then IntKind.u64.wrap (2 ^ (c % 64).toNat) else 0), .int .u64 (if q = 2 then IntKind.u64.wrap (2 ^ (c % 64).toNat) else 0), .int .u64 (if q = 3 then IntKind.u64.wrap (2 ^ (c % 64).toNat) else 0)] = setA (oneS c) := by
  subst hq
  obtain ⟨n, rfl⟩ := Int.eq_ofNat_of_zero_le h0
  have h : ((List.range 256).all fun n => ((if (n : Int) / 64 = 0 then IntKind.u64.wrap (2 ^ ((n : Int) % 64).toNat) else 0) == wd (oneS n) 0) && ((if (n : Int) / 64 = 1 then IntKind.u64.wrap (2 ^ ((n : Int) % 64).toNat) else 0) == wd (oneS n) 1) &&
    ((if (n : Int) / 64 = 2 then IntKind.u64.wrap (2 ^ ((n : Int) % 64).toNat) else 0) == wd (oneS n) 2) && ((if (n : Int) / 64 = 3 then IntKind.u64.wrap (2 ^ ((n : Int) % 64).toNat) else 0) == wd (oneS n) 3)) = true := by decide +kernel
  have h2 := List.all_eq_true.1 h n (by simp; omega)
  simp only [Bool.and_eq_true, beq_iff_eq] at h2
  obtain ⟨⟨⟨a, b⟩, c⟩, d⟩ := h2
  rw [a, b, c, d]
  rfl
set_option maxRecDepth 100000 in
set_option maxHeartbeats 800000 in
theorem bone_c (c : Int) (w : World) (h0 : 0 ≤ c) (h1 : c < 256) : Calls Try.prog 76 #[.int .u8 c] w fun e w' => e = .returned (.agg (setA (oneS c))) ∧ Fr No w w' := by
  have hq : c / 64 = 0 ∨ c / 64 = 1 ∨ c / 64 = 2 ∨ c / 64 = 3 := by omega
  have hr0 : 0 ≤ c % 64 := by omega
  have hr1 : c % 64 < 64 := by omega
  rcases hq with hq | hq | hq | hq
  all_goals
    go_enter Try.func76, Try.ntmps76
    go_wp2
    refine bodyPost_ret (v := .agg _) (by simp [results, Try.results76, go_sem]; try rfl) rfl ⟨?_, (Fr.refl No w).alloc _⟩
    exact congrArg (fun l => Ending.returned (.agg l)) (one_cells h0 h1 hq)
/-- The word of those that aren't there. -/
def n64 (x : Int) : Int := 18446744073709551615 - x
theorem run_not64 (x : Nat) (hx : x < 2 ^ 64) : bits .xor .u64 IntKind.u64.max (x : Int) = n64 x := by
    show IntKind.u64.wrap ((BitVec.ofInt 64 IntKind.u64.max ^^^ BitVec.ofInt 64 (x : Int)).toNat : Int) = _
    have h1 : BitVec.ofInt 64 IntKind.u64.max = BitVec.allOnes 64 := by decide
    rw [h1, BitVec.allOnes_xor, BitVec.toNat_not, ofInt_u64 x hx]
    unfold n64
    rw [IntWalk.u64_in] <;> omega
theorem wd_not (s i : Nat) (hi : i < 4) : n64 (wd s i) = wd (notS s) i := by
  unfold n64 wd notS allS
  have h1 : s / 2 ^ (64 * i) % 2 ^ 64 < 2 ^ 64 := Nat.mod_lt _ (by decide)
  have h : (2 ^ 256 - 1 - s % 2 ^ 256) / 2 ^ (64 * i) % 2 ^ 64 = 2 ^ 64 - 1 - s / 2 ^ (64 * i) % 2 ^ 64 := by
    apply Nat.eq_of_testBit_eq
    intro j
    have h2 : s % 2 ^ 256 < 2 ^ 256 := Nat.mod_lt _ (by decide)
    rw [show 2 ^ 256 - 1 - s % 2 ^ 256 = 2 ^ 256 - (s % 2 ^ 256 + 1) by omega, show 2 ^ 64 - 1 - s / 2 ^ (64 * i) % 2 ^ 64 = 2 ^ 64 - (s / 2 ^ (64 * i) % 2 ^ 64 + 1) by omega]
    rw [Nat.testBit_mod_two_pow, Nat.testBit_div_two_pow, Nat.testBit_two_pow_sub_succ h2, Nat.testBit_two_pow_sub_succ h1, Nat.testBit_mod_two_pow, Nat.testBit_mod_two_pow, Nat.testBit_div_two_pow]
    by_cases hj : j < 64
    · have : j + 64 * i < 256 := by omega
      simp [hj, this]
    · simp [hj]
  rw [h]
  omega
theorem wd_nat (s i : Nat) : ∃ n : Nat, wd s i = n ∧ n < 2 ^ 64 := ⟨_, rfl, Nat.mod_lt _ (by decide)⟩
set_option maxRecDepth 100000 in
set_option maxHeartbeats 800000 in
theorem bnot_c (s : Nat) (w : World) : Calls Try.prog 81 #[.agg (setA s)] w fun e w' => e = .returned (.agg (setA (notS s))) ∧ Fr No w w' := by
  unfold setA
  rw [← wd_not s 0 (by decide), ← wd_not s 1 (by decide), ← wd_not s 2 (by decide), ← wd_not s 3 (by decide)]
  obtain ⟨a0, e0, l0⟩ := wd_nat s 0
  obtain ⟨a1, e1, l1⟩ := wd_nat s 1
  obtain ⟨a2, e2, l2⟩ := wd_nat s 2
  obtain ⟨a3, e3, l3⟩ := wd_nat s 3
  rw [e0, e1, e2, e3]
  have x0 := run_not64 a0 l0
  have x1 := run_not64 a1 l1
  have x2 := run_not64 a2 l2
  have x3 := run_not64 a3 l3
  clear e0 e1 e2 e3 l0 l1 l2 l3
  have hsg : IntKind.u64.signed = false := rfl
  go_enter Try.func81, Try.ntmps81
  go_wp2
  refine wp_loop_rounds 5 ?_
  rw [rounds_succ]
  go_wp2
  rw [rounds_succ]
  go_wp2
  rw [rounds_succ]
  go_wp2
  rw [rounds_succ]
  go_wp2
  rw [rounds_succ]
  go_wp2
  refine bodyPost_ret (v := .agg _) (by simp [results, Try.results81, go_sem]) rfl ⟨rfl, (by repeat (first | assumption | exact Fr.refl _ _ | apply Fr.drewN | apply Fr.drew | apply Fr.alloc | apply Fr.setB | (apply Fr.setNew (hp := by first | exact Nat.le_refl _ | (simp; done) | (simp; omega))) | (refine Fr.no ?_ (by assumption)) | (refine Fr.trans ?_ (by assumption))))⟩

/-- The bytes from one on, up to another one. -/
def rangeS (lo k : Nat) : Nat := 2 ^ k - 2 ^ lo
theorem rangeS_succ (lo k : Nat) (h : lo ≤ k) : rangeS lo (k + 1) = rangeS lo k ||| 2 ^ k := by
  unfold rangeS
  have h1 : 2 ^ lo ≤ 2 ^ k := Nat.pow_le_pow_right (by decide) h
  have h2 : 0 < 2 ^ lo := Nat.pow_pos (by decide)
  have h3 := Nat.two_pow_add_eq_or_of_lt (i := k) (b := 2 ^ k - 2 ^ lo) (by omega) 1
  simp only [Nat.mul_one] at h3
  rw [Nat.or_comm, ← h3, Nat.pow_succ]
  omega
theorem set_or (s k : Nat) (q : Nat) (hk : k < 256) (hq : k / 64 = q) : (setA s).setIfInBounds q (.int .u64 (bits .or .u64 (wd s q) (IntKind.u64.wrap (2 ^ (k % 64))))) = setA (s ||| 2 ^ k) := by
  have hw : IntKind.u64.wrap (2 ^ (k % 64)) = ((2 ^ (k % 64) : Nat) : Int) := by
    have h : 2 ^ (k % 64) < 2 ^ 64 := Nat.pow_lt_pow_right (by omega) (by omega)
    have e : (2 : Int) ^ (k % 64) = ((2 ^ (k % 64) : Nat) : Int) := by simp
    rw [e]
    generalize 2 ^ (k % 64) = x at h ⊢
    exact IntWalk.u64_in _ (by omega)
  have hp : 2 ^ (k % 64) < 2 ^ 64 := Nat.pow_lt_pow_right (by omega) (by omega)
  rw [hw, wd_eq, bits_or _ _ (wdN_lt _ _) hp]
  unfold setA
  simp only [wd_eq, wdN_or, wdN_pow, hq]
  have hq4 : q = 0 ∨ q = 1 ∨ q = 2 ∨ q = 3 := by omega
  rcases hq4 with rfl | rfl | rfl | rfl <;> simp
set_option maxRecDepth 100000 in
set_option maxHeartbeats 800000 in
theorem bof_c (lo hi : Nat) (w : World) (h0 : lo ≤ hi) (h1 : hi < 256) : Calls Try.prog 74 #[.int .u8 lo, .int .u8 hi] w fun e w' => e = .returned (.agg (setA (ofS lo hi))) ∧ Fr No w w' := by
  go_enter Try.func74, Try.ntmps74
  go_wp2
  go_loopw [5] (fun v wr => ∃ k : Nat, lo ≤ k ∧ k ≤ hi + 1 ∧ v = .int .i64 k ∧ Blk wr w.heap.size 35 (setA (rangeS lo k)) ∧ Fr No w wr) (fun v _ => (hi + 1) - (intOf v).toNat)
  case atStart => exact ⟨lo, by omega, by omega, rfl, by unfold rangeS; rw [Nat.sub_self]; exact Blk.new w _ _, (by repeat (first | assumption | exact Fr.refl _ _ | apply Fr.drewN | apply Fr.drew | apply Fr.alloc | apply Fr.setB | (apply Fr.setNew (hp := by first | exact Nat.le_refl _ | (simp; done) | (simp; omega))) | (refine Fr.no ?_ (by assumption)) | (refine Fr.trans ?_ (by assumption))))⟩
  case round =>
    obtain ⟨k, hk0, hk1, rfl, hb, hf⟩ := hrel
    by_cases hlt : k ≤ hi
    · obtain ⟨q, hqn⟩ : ∃ q, k / 64 = q := ⟨_, rfl⟩
      have hq : (k : Int) / 64 = (q : Int) := by omega
      have hset := hid (set_or (rangeS lo k) k q (by omega) hqn)
      have hqq : q = 0 ∨ q = 1 ∨ q = 2 ∨ q = 3 := by omega
      clear hqn
      rcases hqq with rfl | rfl | rfl | rfl
      all_goals
        simp only [Int.natCast_zero, Int.cast_ofNat_Int] at hq
        have hsucc := hid (rangeS_succ lo k hk0)
        have hc0 := hb.cell 0
        have hz0 := hb.frozen 0
        have hc1 := hb.cell 1
        have hz1 := hb.frozen 1
        have hc2 := hb.cell 2
        have hz2 := hb.frozen 2
        have hc3 := hb.cell 3
        have hz3 := hb.frozen 3
        simp only [setA, List.getElem?_toArray, List.getElem?_cons_zero, List.getElem?_cons_succ] at hc0 hc1 hc2 hc3
        go_wp2
        go_region
        go_wp2
        go_roundw
        case rel =>
          refine ⟨k + 1, by omega, by omega, by go_num, ?_, (by repeat (first | assumption | exact Fr.refl _ _ | apply Fr.drewN | apply Fr.drew | apply Fr.alloc | apply Fr.setB | (apply Fr.setNew (hp := by first | exact Nat.le_refl _ | (simp; done) | (simp; omega))) | (refine Fr.no ?_ (by assumption)) | (refine Fr.trans ?_ (by assumption))))⟩
          rw [hsucc.out, ← hset.out]
          exact hb.set_ _ _
        case measure => simp [intOf]; omega
    · obtain rfl : k = hi + 1 := by omega
      have hc0 := hb.cell 0
      have hc1 := hb.cell 1
      have hc2 := hb.cell 2
      have hc3 := hb.cell 3
      simp only [setA, List.getElem?_toArray, List.getElem?_cons_zero, List.getElem?_cons_succ] at hc0 hc1 hc2 hc3
      have hz0 := hb.frozen 0
      have hz1 := hb.frozen 1
      have hz2 := hb.frozen 2
      have hz3 := hb.frozen 3
      go_wp2
      refine bodyPost_ret (v := .agg (setA (rangeS lo (hi + 1)))) (by simp [results, setA, Try.results74, go_sem, hc0, hc1, hc2, hc3]) rfl ⟨by unfold ofS rangeS; rw [Int.toNat_natCast, Int.toNat_natCast], (by repeat (first | assumption | exact Fr.refl _ _ | apply Fr.drewN | apply Fr.drew | apply Fr.alloc | apply Fr.setB | (apply Fr.setNew (hp := by first | exact Nat.le_refl _ | (simp; done) | (simp; omega))) | (refine Fr.no ?_ (by assumption)) | (refine Fr.trans ?_ (by assumption))))⟩
/-- 'a | b'. -/
theorem wd_or (s t i : Nat) : bits .or .u64 (wd s i) (wd t i) = wd (s ||| t) i := by
  rw [wd_eq, wd_eq, wd_eq, wdN_or, bits_or _ _ (wdN_lt _ _) (wdN_lt _ _)]
set_option maxRecDepth 100000 in
set_option maxHeartbeats 1600000 in
theorem bor_c (s t : Nat) (w : World) : Calls Try.prog 79 #[.agg (setA s), .agg (setA t)] w fun e w' => e = .returned (.agg (setA (orS s t))) ∧ Fr No w w' := by
  have H0 := hid (wd_or s t 0)
  have H1 := hid (wd_or s t 1)
  have H2 := hid (wd_or s t 2)
  have H3 := hid (wd_or s t 3)
  unfold setA orS
  generalize wd (s ||| t) 0 = c0 at *
  generalize wd (s ||| t) 1 = c1 at *
  generalize wd (s ||| t) 2 = c2 at *
  generalize wd (s ||| t) 3 = c3 at *
  generalize wd s 0 = a0 at *
  generalize wd s 1 = a1 at *
  generalize wd s 2 = a2 at *
  generalize wd s 3 = a3 at *
  generalize wd t 0 = b0 at *
  generalize wd t 1 = b1 at *
  generalize wd t 2 = b2 at *
  generalize wd t 3 = b3 at *
  go_enter Try.func79, Try.ntmps79
  go_wp2
  refine wp_loop_rounds 5 ?_
  rw [rounds_succ]
  go_wp2
  go_region
  go_wp2
  rw [rounds_succ]
  go_wp2
  go_region
  go_wp2
  rw [rounds_succ]
  go_wp2
  go_region
  go_wp2
  rw [rounds_succ]
  go_wp2
  go_region
  go_wp2
  rw [rounds_succ]
  go_wp2
  refine bodyPost_ret (v := .agg _) (by simp [results, Try.results79, go_sem]; try rfl) rfl ⟨?_, (by repeat (first | assumption | exact Fr.refl _ _ | apply Fr.drewN | apply Fr.drew | apply Fr.alloc | apply Fr.setB | (apply Fr.setNew (hp := by first | exact Nat.le_refl _ | (simp; done) | (simp; omega))) | (refine Fr.no ?_ (by assumption)) | (refine Fr.trans ?_ (by assumption))))⟩
  rw [H0.out, H1.out, H2.out, H3.out]
end Go.Proofs.Ytldmdlkjpdfonaa
