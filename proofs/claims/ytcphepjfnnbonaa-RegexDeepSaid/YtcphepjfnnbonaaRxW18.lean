/- The walk of regex.Same: its head. -/
import Derived.Test.YtcphepjfnnbonaaRxW17
import Derived.Test.YtcphepjfnnbonaaSetEq
namespace Go.Proofs.Ytcphepjfnnbonaa
set_option linter.unusedVariables false
set_option linter.unusedSimpArgs false
open Go Go.RowKit

set_option maxHeartbeats 4000000 in
theorem same_s (k : Nat) (a b : Nd) (va vb : Value) (S : Nat → Prop) (w : World) (hk : a.depth ≤ k + 1) (ha : NodeIn w S va a) (hb : NodeIn w S vb b)
    (Hih : Hid (∀ (a b : Nd) (va vb : Value) (w : World), a.depth ≤ k → NodeIn w S va a → NodeIn w S vb b → Calls Try.prog 10 #[va, vb] w fun e w' => e = .returned (.bool (a.same b)) ∧ Fr No w w')) :
    Calls Try.prog 10 #[va, vb] w fun e w' => e = .returned (.bool (a.same b)) ∧ Fr No w w' := by
  obtain ⟨A, capa, rfl, ra⟩ := ha
  obtain ⟨B, capb, rfl, rb⟩ := hb
  have b0 := (Blk.new w 28 (nodeA a A capa)).alloc (.cells (nodeA b B capb) 28)
  have b1 := Blk.new (w.alloc (.cells (nodeA a A capa) 28)) 28 (nodeA b B capb)
  have ra1 := (ra.alloc (.cells (nodeA a A capa) 28)).alloc (.cells (nodeA b B capb) 28)
  have rb1 := (rb.alloc (.cells (nodeA a A capa) 28)).alloc (.cells (nodeA b B capb) 28)
  have hF1 : Fr No w _ := ((Fr.refl No w).alloc (.cells (nodeA a A capa) 28)).alloc (.cells (nodeA b B capb) 28)
  rw [World.size_alloc] at b1
  have hsame := a.same_eq b
  have heq := eqf_c k a.subs b.subs _ _ S _ (by have := a.depth_eq; omega) ra1 rb1 Hih
  have Heq := hid heq
  clear ra rb ra1 rb1 heq
  unfold sameHead at hsame
  generalize h1 : (a.kind == b.kind) = t1 at *
  generalize h2 : (wd a.set 0 == wd b.set 0 && wd a.set 1 == wd b.set 1 && wd a.set 2 == wd b.set 2 && wd a.set 3 == wd b.set 3) = t2 at *
  generalize h3 : (a.mn == b.mn) = t3 at *
  generalize h4 : (a.mx == b.mx) = t4 at *
  have Hsame := hid hsame
  clear hsame
  have a0 := b0.cell 0
  have a5 := b0.cell 5
  have a6 := b0.cell 6
  have a7 := b0.cell 7
  have c0 := b1.cell 0
  have c5 := b1.cell 5
  have c6 := b1.cell 6
  have c7 := b1.cell 7
  have za := fun i => b0.frozen i
  have zb := fun i => b1.frozen i
  have sa : (((w.alloc (.cells (nodeA a A capa) 28)).alloc (.cells (nodeA b B capb) 28))).rangeAt w.heap.size 1 (setA a.set).toList := fun j v hv => by
    refine (b0.cell (1 + j)).trans ?_
    rcases j with _ | _ | _ | _ | j
    all_goals first | exact hv | (simp [setA] at hv)
  have sb : (((w.alloc (.cells (nodeA a A capa) 28)).alloc (.cells (nodeA b B capb) 28))).rangeAt (w.heap.size + 1) 1 (setA b.set).toList := fun j v hv => by
    refine (b1.cell (1 + j)).trans ?_
    rcases j with _ | _ | _ | _ | j
    all_goals first | exact hv | (simp [setA] at hv)
  have hse := fun W : World => eq_set (wd a.set 0) (wd a.set 1) (wd a.set 2) (wd a.set 3) (wd b.set 0) (wd b.set 1) (wd b.set 2) (wd b.set 3) W
  have B0 := hid b0
  have B1 := hid b1
  clear b0 b1
  cases t1 <;> cases t2 <;> cases t3 <;> cases t4
  all_goals
    unfold nodeA at *
    go_enter Try.func10, Try.ntmps10
    go_wp2_with (first | ((with_reducible refine at_load _ ?_); refine wpList_load_rng (cs := setA a.set) rfl rfl rfl sa Try.underlying25 rfl infoSet ?_; unfold setA) | ((with_reducible refine at_load _ ?_); refine wpList_load_rng (cs := setA b.set) rfl rfl rfl sb Try.underlying25 rfl infoSet ?_; unfold setA) |
      (go_at_call 20; refine Heq.out.mono ?_; rintro e w2 ⟨rfl, hf2⟩))
    go_ret
    exact ⟨by rw [Hsame.out]; rfl, by first | exact hF1.no hf2 | exact hF1⟩
end Go.Proofs.Ytcphepjfnnbonaa
