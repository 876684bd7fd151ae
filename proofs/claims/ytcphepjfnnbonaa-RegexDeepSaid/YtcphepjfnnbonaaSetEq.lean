/- Whether two sets are the same. -/
import Derived.Test.YtcphepjfnnbonaaNode
namespace Go.Proofs.Ytcphepjfnnbonaa
set_option linter.unusedVariables false
set_option linter.unusedSimpArgs false
open Go Go.RowKit
theorem eq_set (x0 x1 x2 x3 y0 y1 y2 y3 : Int) (w : World) :
    (Op.equalIn 10000 25 (.agg #[.int .u64 x0, .int .u64 x1, .int .u64 x2, .int .u64 x3]) (.agg #[.int .u64 y0, .int .u64 y1, .int .u64 y2, .int .u64 y3])).run Try.prog w = .ok (x0 == y0 && x1 == y1 && x2 == y2 && x3 == y3) w := by
  have hi : ∀ (a b : Int) (W : World), (Op.equalIn 9999 23 (.int .u64 a) (.int .u64 b)).run Try.prog W = .ok (a == b) W := fun a b W => run_equalIn_int W 9998 23 .u64 _ a b rfl
  have hs : ∀ W : World, (sizeOf 23).run Try.prog W = .ok 1 W := fun _ => by kernel_rfl
  have hp : ∀ (a b c d : Int) (W : World), (part 23 #[.int .u64 a, .int .u64 b, .int .u64 c, .int .u64 d] 0).run Try.prog W = .ok (.int .u64 a) W ∧ (part 23 #[.int .u64 a, .int .u64 b, .int .u64 c, .int .u64 d] 1).run Try.prog W = .ok (.int .u64 b) W ∧
      (part 23 #[.int .u64 a, .int .u64 b, .int .u64 c, .int .u64 d] 2).run Try.prog W = .ok (.int .u64 c) W ∧ (part 23 #[.int .u64 a, .int .u64 b, .int .u64 c, .int .u64 d] 3).run Try.prog W = .ok (.int .u64 d) W := fun a b c d W => ⟨by simp [go_sem], by simp [go_sem], by simp [go_sem], by simp [go_sem]⟩
  have hu : Try.prog.underlying 25 = some (.array 4 23) := rfl
  rw [show (10000 : Nat) = 9999 + 1 from rfl]
  generalize 9999 = d at *
  simp only [Op.equalIn, Sem.run_bind, run_underlying hu, Result.andThen_ok, hs]
  simp only [Std.Legacy.Range.forIn_eq_forIn_range', Std.Legacy.Range.size, List.range', Nat.reduceAdd, Nat.reduceSub, Nat.reduceDiv, List.forIn_cons, List.forIn_nil, Sem.run_bind, Nat.mul_one, Nat.zero_add, (hp _ _ _ _ _).1, (hp _ _ _ _ _).2.1, (hp _ _ _ _ _).2.2.1, (hp _ _ _ _ _).2.2.2, Result.andThen_ok, hi]
  cases h0 : (x0 == y0) <;> cases h1 : (x1 == y1) <;> cases h2 : (x2 == y2) <;> cases h3 : (x3 == y3) <;> simp_all
end Go.Proofs.Ytcphepjfnnbonaa
