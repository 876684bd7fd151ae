/- The walk of RegexRound, whole. Condition: no text is longer than what can be reached. -/
import Derived.Test.YtcphepjfnnbonaaRxRound
namespace Go.Proofs.Ytcphepjfnnbonaa
set_option linter.unusedVariables false
set_option linter.unusedSimpArgs false
open Go Go.RowKit

theorem reach_eq : reachBytes = 140737488351232 := by decide
set_option maxHeartbeats 1600000 in
theorem round_big (Haw : Hid (∀ w : World, Calls Try.prog 7 #[] w fun e w' => e = .returned (.bool true) ∧ Fr No w w')) (s u : ByteArray) (w : World) (hw : wrap64 ((s.size : Int) + (u.size : Int)) = (s.size : Int) + (u.size : Int))
    (hd : decide (1000 < (s.size : Int) + (u.size : Int)) = true) (hd' : decide (1000 < s.size + u.size) = true) :
    Calls Try.prog 6 #[.string s, .string u] w fun e w' => e = .returned (.bool true) ∧ Fr No w w' := by
  go_enter Try.func6, Try.ntmps6
  go_wp2_with fail
  refine (Haw.out _).mono ?_
  rintro e w1 ⟨rfl, hf1⟩
  go_wp2_with fail
  refine (Haw.out _).mono ?_
  rintro e w2 ⟨rfl, hf2⟩
  go_wp2_with fail
  go_ret
  exact ⟨rfl, hf1.no hf2⟩
theorem round_c (Haw : Hid (∀ w : World, Calls Try.prog 7 #[] w fun e w' => e = .returned (.bool true) ∧ Fr No w w')) (s u : ByteArray) (w : World) (hs : s.size ≤ reachBytes) (hu : u.size ≤ reachBytes) :
    Calls Try.prog 6 #[.string s, .string u] w fun e w' => e = .returned (.bool true) ∧ Fr No w w' := by
  by_cases hsu : s.size + u.size ≤ 1000
  · cases hps : Rx.parse s with
    | out => exact absurd hps (parse_ne s)
    | bad k =>
      cases hpu : Rx.parse u with
      | out => exact absurd hpu (parse_ne u)
      | bad k' => exact round_bb Haw s u w hsu k k' hps hpu
      | ok b j => exact round_bo Haw s u w hsu k b j hps hpu
    | ok a j =>
      cases hpu : Rx.parse u with
      | out => exact absurd hpu (parse_ne u)
      | bad k' => exact round_ob Haw s u w hsu a j k' hps hpu
      | ok b j' =>
        rcases round_one hps with h1 | ⟨k, h1⟩
        · rcases round_two hps hpu with h2 | ⟨k, h2⟩
          · exact round_oo Haw s u w hsu a b j j' hps hpu h1 h2
          · exact round_o2 Haw s u w hsu a b j j' hps hpu h1 k h2
        · exact round_o1 Haw s u w hsu a b j j' hps hpu k h1
  · rw [reach_eq] at hs hu
    refine round_big Haw s u w ?_ (decide_eq_true (by omega)) (decide_eq_true (by omega))
    unfold wrap64
    omega
end Go.Proofs.Ytcphepjfnnbonaa
