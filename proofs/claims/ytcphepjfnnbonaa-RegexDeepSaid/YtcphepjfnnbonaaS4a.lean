/- The walk of sieveref04.Has: is a byte in a set? Condition: it is a byte. -/
import Derived.Test.YtcphepjfnnbonaaSets
namespace Go.Proofs.Ytcphepjfnnbonaa
set_option linter.unusedVariables false
set_option linter.unusedSimpArgs false
open Go Go.RowKit

theorem has_bit (s b q : Nat) (hq : b / 64 = q) : ((wd s q / 2 ^ (b % 64)).tmod 2 == 1) = s.testBit b := by
  have hnn : (0 : Int) ≤ wd s q / 2 ^ (b % 64) := by rw [wd_eq]; exact Int.ediv_nonneg (by omega) (Int.le_of_lt (Int.pow_pos (by decide)))
  rw [Int.tmod_eq_emod_of_nonneg hnn]
  have h1 : (wdN s q).testBit (b % 64) = s.testBit b := by
    rw [wdN_bit]
    have e : 64 * q + b % 64 = b := by omega
    have e2 : b % 64 < 64 := Nat.mod_lt _ (by decide)
    rw [e]; simp [e2]
  rw [← h1, Nat.testBit_eq_decide_div_mod_eq, wd_eq]
  have e3 : ((2 : Int) ^ (b % 64)) = ((2 ^ (b % 64) : Nat) : Int) := by simp
  rw [e3, ← Int.natCast_ediv, show (2 : Int) = ((2 : Nat) : Int) from rfl, ← Int.natCast_emod]
  generalize wdN s q / 2 ^ (b % 64) % 2 = x
  rw [Bool.eq_iff_iff]
  simp
  omega
set_option maxHeartbeats 800000 in
theorem has_c (s b : Nat) (w : World) (hb : b < 256) : Calls Try.prog 53 #[.agg (setA s), .int .i64 b] w fun e w' => e = .returned (.bool (s.testBit b)) ∧ Fr No w w' := by
  obtain ⟨q, hqn⟩ : ∃ q, b / 64 = q := ⟨_, rfl⟩
  have hbit := hid (has_bit s b q hqn)
  have hq : (b : Int) / 64 = (q : Int) := by omega
  have hqq : q = 0 ∨ q = 1 ∨ q = 2 ∨ q = 3 := by omega
  have hr0 : (0 : Int) ≤ (b : Int) % 64 := by omega
  have hr1 : (b : Int) % 64 < 64 := by omega
  clear hqn
  unfold setA
  rcases hqq with rfl | rfl | rfl | rfl
  all_goals
    simp only [Int.natCast_zero, Int.cast_ofNat_Int] at hq
    go_enter Try.func53, Try.ntmps53
    go_wp2
    go_ret
    exact ⟨by rw [hbit.out]; rfl, (Fr.refl No w).alloc _⟩
end Go.Proofs.Ytcphepjfnnbonaa
