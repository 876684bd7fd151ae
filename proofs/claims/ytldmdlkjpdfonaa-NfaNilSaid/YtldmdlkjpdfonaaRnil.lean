/- The walk of the law NfaNil: true for every number. No condition. -/
import Derived.Test.YtldmdlkjpdfonaaAw2
namespace Go.Proofs.Ytldmdlkjpdfonaa
set_option linter.unusedVariables false
set_option linter.unusedSimpArgs false
open Go Go.RowKit

set_option maxRecDepth 100000 in
set_option maxHeartbeats 4000000 in
theorem lawNil_c (i : Int) (w : World) : Calls Try.prog 6 #[.int .i64 i] w fun e w' => e = .returned (.bool true) ∧ Fr No w w' := by
  have hst := state_nil w i
  have hbd := fun W => build_arg (.pointer none) [] none 0 (fun _ => True) W (.nil0 (Nat.zero_le _)) (by simp)
  have Haw := hid (fun W : World => awake_c W)
  have hln := fun W => lenNil_c W
  have hru := fun W => rulesNil_c W
  have hse := fun W => sets_nil W
  go_enter Try.func6, Try.ntmps6
  go_wp2_with (first | (go_at_call 23; refine (drop_nil _ _).mono ?_; rintro e w1 ⟨rfl, hw1⟩; replace hw1 := hw1.symm; subst hw1) |
    (go_at_call 24; refine hst.mono ?_; rintro e w2 ⟨rfl, hf2⟩) |
    ((with_reducible refine at_store 54 ?_); refine wpList_store_blk (cs := stA (over []) none 0) rfl rfl rfl rfl (Blk.new w2 54 #[.int .u64 0, .int .u64 0, .int .u64 0, .int .u64 0, .int .i64 0, .int .i64 0, .slice none 0 0]) rfl infoState (stA_one _ _ _) ?_; intro W3 hW3 hfW3 _) |
    (go_at_call 11; refine (hbd _).mono ?_; rintro e w4 ⟨rfl, hf4⟩; have hB4 := hf4.blk hW3 id) |
    (go_at_call 8; refine (Haw.out _).mono ?_; rintro e w5 ⟨rfl, hf5⟩; have hB5 := hf5.blk hB4 id; have c4 : w5.cell? ⟨w2.heap.size, 4, none⟩ = some (.int .i64 (-1)) := hB5.cell 4; have c5 : w5.cell? ⟨w2.heap.size, 5, none⟩ = some (.int .i64 (-1)) := hB5.cell 5; have c6 : w5.cell? ⟨w2.heap.size, 6, none⟩ = some (.slice none 0 0) := hB5.cell 6) |
    (go_at_call 18; refine (hln _).mono ?_; rintro e w6 ⟨rfl, hw6⟩; replace hw6 := hw6.symm; subst hw6) |
    (go_at_call 25; refine (hru _).mono ?_; rintro e w7 ⟨rfl, hw7⟩; replace hw7 := hw7.symm; subst hw7) |
    (go_at_call 19; refine (hse _).mono ?_; rintro e w8 ⟨rfl, hw8⟩; replace hw8 := hw8.symm; subst hw8))
  go_ret
  exact ⟨rfl, (((hf2.alloc _).callAt hfW3 hf2.size).no hf4).no hf5⟩
end Go.Proofs.Ytldmdlkjpdfonaa
