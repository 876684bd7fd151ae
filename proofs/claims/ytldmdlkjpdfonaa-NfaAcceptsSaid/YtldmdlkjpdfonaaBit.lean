/- A bit of a set, by its words. No program in sight. -/
import Derived.Test.YtldmdlkjpdfonaaSets
namespace Go.Proofs.Ytldmdlkjpdfonaa
set_option linter.unusedVariables false
set_option linter.unusedSimpArgs false
open Go Go.RowKit

theorem has_bit (s b q : Nat) (hq : b / 64 = q) : ((wd s q / 2 ^ (b % 64)).tmod 2 == 1) = s.testBit b := by
  have hnn : (0 : Int) ≤ wd s q / 2 ^ (b % 64) := by rw [wd_eq]; exact Int.ediv_nonneg (by omega) (Int.le_of_lt (Int.pow_pos (by decide)))
  rw [Int.tmod_eq_emod_of_nonneg hnn]
  have h1 : (wdN s q).testBit (b % 64) = s.testBit b := by
    rw [wdN_bit]
    have e : 64 * q + b % 64 = b := by omega
    have e2 : b % 64 < 64 := Nat.mod_lt _ (by decide)
    rw [e]; simp [e2]
  rw [← h1, Nat.testBit_eq_decide_div_mod_eq, wd_eq]
  have e3 : ((2 : Int) ^ (b % 64)) = ((2 ^ (b % 64) : Nat) : Int) := by simp
  rw [e3, ← Int.natCast_ediv, show (2 : Int) = ((2 : Nat) : Int) from rfl, ← Int.natCast_emod]
  generalize wdN s q / 2 ^ (b % 64) % 2 = x
  rw [Bool.eq_iff_iff]
  simp
  omega
end Go.Proofs.Ytldmdlkjpdfonaa
