/- The walks of the meter: Take, Step, Give, New, Cells, Steps. Condition: its numbers are as they may be. -/
import Derived.Test.YtldmdlkjpdfonaaBase
import Derived.Test.YtldmdlkjpdfonaaBst
namespace Go.Proofs.Ytldmdlkjpdfonaa
set_option linter.unusedVariables false
set_option linter.unusedSimpArgs false
open Go Go.RowKit

/-- The meter's block. -/
def Me (w : World) (g : Nat) (m : Mtr) : Prop := Blk w g 83 #[.int .i64 m.used, .int .i64 m.most, .int .i64 m.cells, .int .i64 m.done, .int .i64 m.steps, .int .i64 m.e]
section
variable {w w' : World} {g : Nat} {m : Mtr}
theorem Me.cells (h : Me w g m) : w.cell? ⟨g, 0, none⟩ = some (.int .i64 m.used) ∧ w.cell? ⟨g, 1, none⟩ = some (.int .i64 m.most) ∧ w.cell? ⟨g, 2, none⟩ = some (.int .i64 m.cells) ∧ w.cell? ⟨g, 3, none⟩ = some (.int .i64 m.done) ∧
    w.cell? ⟨g, 4, none⟩ = some (.int .i64 m.steps) ∧ w.cell? ⟨g, 5, none⟩ = some (.int .i64 m.e) ∧ w.frozen? ⟨g, 0, none⟩ = false ∧ w.frozen? ⟨g, 1, none⟩ = false ∧ w.frozen? ⟨g, 3, none⟩ = false ∧ w.frozen? ⟨g, 5, none⟩ = false :=
  ⟨h.cell 0, h.cell 1, h.cell 2, h.cell 3, h.cell 4, h.cell 5, h.frozen 0, h.frozen 1, h.frozen 3, h.frozen 5⟩
theorem Me.drewN (h : Me w g m) (n : Nat) : Me (w.drewN n) g m := h
theorem Me.drew (h : Me w g m) : Me w.drew g m := h
theorem Me.alloc (h : Me w g m) (o : Obj) : Me (w.alloc o) g m := Blk.alloc h o
theorem Me.fr {M : Nat → Prop} (h : Me w g m) (hf : Fr M w w') (hn : ¬ M g) : Me w' g m := hf.blk h hn
theorem Me.lt (h : Me w g m) : g < w.heap.size := Blk.lt h
theorem Me.setE (h : Me w g m) (e : Int) : Me (w.setCell ⟨g, 5, none⟩ (.int .i64 e)) g { m with e := e } := Blk.set_ h 5 _
theorem Me.setUsed (h : Me w g m) (e : Int) : Me (w.setCell ⟨g, 0, none⟩ (.int .i64 e)) g { m with used := e } := Blk.set_ h 0 _
theorem Me.setMost (h : Me w g m) (e : Int) : Me (w.setCell ⟨g, 1, none⟩ (.int .i64 e)) g { m with most := e } := Blk.set_ h 1 _
theorem Me.setDone (h : Me w g m) (e : Int) : Me (w.setCell ⟨g, 3, none⟩ (.int .i64 e)) g { m with done := e } := Blk.set_ h 3 _
end

section
variable (g : Nat) (m : Mtr) (w : World)
set_option maxRecDepth 100000 in
set_option maxHeartbeats 800000 in
theorem refuse_c (e : Int) (H : Me w g m) :
    Calls Try.prog 62 #[.pointer (some ⟨g, 0, none⟩), .int .i64 e] w fun r w' => r = .returned (.bool false) ∧ Me w' g (m.refuse e) ∧ Fr (At g) w w' := by
  obtain ⟨h0, h1, h2, h3, h4, h5, f0, f1, f3, f5⟩ := H.cells
  by_cases he : m.e = 0
  · rw [he] at h5
    have hr : m.refuse e = { m with e := e } := by unfold Mtr.refuse; rw [if_pos he]
    go_enter Try.func62, Try.ntmps62
    go_wp2
    go_ret
    exact ⟨rfl, by rw [hr]; exact H.setE e, (Fr.refl (At g) w).setB 5 _⟩
  · have hd : (m.e == 0) = false := by simpa using he
    have hr : m.refuse e = m := by unfold Mtr.refuse; rw [if_neg he]
    go_enter Try.func62, Try.ntmps62
    go_wp2
    go_ret
    exact ⟨rfl, by rw [hr]; exact H, Fr.refl (At g) w⟩
set_option maxRecDepth 100000 in
set_option maxHeartbeats 1600000 in
theorem take_c (n : Int) (H : Me w g m) (hf : m.fits) (hn : 0 ≤ n ∧ n < 1099511627776) :
    Calls Try.prog 50 #[.pointer (some ⟨g, 0, none⟩), .int .i64 n] w fun r w' => r = .returned (.bool (m.take n).1) ∧ Me w' g (m.take n).2 ∧ Fr (At g) w w' := by
  obtain ⟨h0, h1, h2, h3, h4, h5, f0, f1, f3, f5⟩ := H.cells
  obtain ⟨t1, t2, t3, t4, t5, t6⟩ := hf
  have hn0 : decide (n < 0) = false := decide_eq_false (by omega)
  have hw1 : wrap64 (m.cells - m.used) = m.cells - m.used := by unfold wrap64; omega
  by_cases hc : m.cells - m.used < n
  · have hd : decide (m.cells - m.used < n) = true := decide_eq_true hc
    have hr : m.take n = (false, m.refuse 3) := by unfold Mtr.take; rw [if_neg (by omega), if_pos hc]
    have Hr := hid hr
    clear hr
    go_enter Try.func50, Try.ntmps50
    go_wp2
    go_quiet (fail)
    go_wp2_with (go_at_call 62; refine (refuse_c g m _ 3 (H.drewN _)).mono ?_; rintro e w2 ⟨rfl, hm2, hf2⟩)
    go_ret
    rw [Hr.out]
    exact ⟨rfl, hm2, hf2.undrewN⟩
  · have hd : decide (m.cells - m.used < n) = false := decide_eq_false hc
    have hr : m.take n = (true, { m with used := m.used + n, most := max m.most (m.used + n) }) := by unfold Mtr.take; rw [if_neg (by omega), if_neg hc]
    have Hr := hid hr
    clear hr
    have hw2 : wrap64 (m.used + n) = m.used + n := by unfold wrap64; omega
    go_enter Try.func50, Try.ntmps50
    go_wp2
    go_quiet (fail)
    go_wp2
    go_region
    all_goals (try go_wp2)
    all_goals
      go_ret
      rw [Hr.out]
      refine ⟨rfl, ?_, ((((Fr.refl (At g) w).drewN _).setB 0 _).setB 1 _).drew⟩
      have hh := ((H.drewN nq).setUsed (m.used + n)).setMost (max m.most (m.used + n))
      first | exact hh.drew | (rw [show max m.most (m.used + n) = m.most by omega] at hh ⊢; exact hh.drew) | (rw [show max m.most (m.used + n) = m.used + n by omega] at hh ⊢; exact hh.drew)
set_option maxRecDepth 100000 in
set_option maxHeartbeats 1600000 in
theorem step_c (n : Int) (H : Me w g m) (hf : m.fits) (hn : 0 ≤ n ∧ n < 1099511627776) :
    Calls Try.prog 51 #[.pointer (some ⟨g, 0, none⟩), .int .i64 n] w fun r w' => r = .returned (.bool (m.step n).1) ∧ Me w' g (m.step n).2 ∧ Fr (At g) w w' := by
  obtain ⟨h0, h1, h2, h3, h4, h5, f0, f1, f3, f5⟩ := H.cells
  obtain ⟨t1, t2, t3, t4, t5, t6⟩ := hf
  have hn0 : decide (n < 0) = false := decide_eq_false (by omega)
  have hw1 : wrap64 (m.steps - m.done) = m.steps - m.done := by unfold wrap64; omega
  by_cases hc : m.steps - m.done < n
  · have hd : decide (m.steps - m.done < n) = true := decide_eq_true hc
    have hr : m.step n = (false, m.refuse 4) := by unfold Mtr.step; rw [if_neg (by omega), if_pos hc]
    have Hr := hid hr
    clear hr
    go_enter Try.func51, Try.ntmps51
    go_wp2
    go_quiet (fail)
    go_wp2_with (go_at_call 62; refine (refuse_c g m _ 4 (H.drewN _)).mono ?_; rintro e w2 ⟨rfl, hm2, hf2⟩)
    go_ret
    rw [Hr.out]
    exact ⟨rfl, hm2, hf2.undrewN⟩
  · have hd : decide (m.steps - m.done < n) = false := decide_eq_false hc
    have hr : m.step n = (true, { m with done := m.done + n }) := by unfold Mtr.step; rw [if_neg (by omega), if_neg hc]
    have Hr := hid hr
    clear hr
    have hw2 : wrap64 (m.done + n) = m.done + n := by unfold wrap64; omega
    go_enter Try.func51, Try.ntmps51
    go_wp2
    go_quiet (fail)
    go_wp2
    go_ret
    rw [Hr.out]
    exact ⟨rfl, (H.drewN nq).setDone (m.done + n), ((Fr.refl (At g) w).drewN _).setB 3 _⟩
set_option maxRecDepth 100000 in
set_option maxHeartbeats 1600000 in
theorem give_c (n : Int) (H : Me w g m) (hf : m.fits) (hn : 0 ≤ n ∧ n < 1099511627776) :
    Calls Try.prog 40 #[.pointer (some ⟨g, 0, none⟩), .int .i64 n] w fun r w' => r = .returned (.bool (m.give n).1) ∧ Me w' g (m.give n).2 ∧ Fr (At g) w w' := by
  obtain ⟨h0, h1, h2, h3, h4, h5, f0, f1, f3, f5⟩ := H.cells
  obtain ⟨t1, t2, t3, t4, t5, t6⟩ := hf
  have hn0 : decide (n < 0) = false := decide_eq_false (by omega)
  by_cases hc : m.used < n
  · have hd : decide (m.used < n) = true := decide_eq_true hc
    have hr : m.give n = (false, m) := by unfold Mtr.give; rw [if_pos (by omega)]
    have Hr := hid hr
    clear hr
    go_enter Try.func40, Try.ntmps40
    go_wp2
    go_ret
    rw [Hr.out]
    exact ⟨rfl, H, Fr.refl (At g) w⟩
  · have hd : decide (m.used < n) = false := decide_eq_false hc
    have hr : m.give n = (true, { m with used := m.used - n }) := by unfold Mtr.give; rw [if_neg (by omega)]
    have Hr := hid hr
    clear hr
    have hw2 : wrap64 (m.used - n) = m.used - n := by unfold wrap64; omega
    go_enter Try.func40, Try.ntmps40
    go_wp2
    go_ret
    rw [Hr.out]
    exact ⟨rfl, H.setUsed (m.used - n), (Fr.refl (At g) w).setB 0 _⟩
set_option maxRecDepth 100000 in
set_option maxHeartbeats 800000 in
theorem giveNil_c (n : Int) : Calls Try.prog 40 #[.pointer none, .int .i64 n] w fun r w' => r = .returned (.bool false) ∧ w' = w := by
  go_enter Try.func40, Try.ntmps40
  go_wp2
  go_ret
  exact ⟨rfl, rfl⟩
set_option maxRecDepth 100000 in
set_option maxHeartbeats 800000 in
theorem cells_c (H : Me w g m) : Calls Try.prog 27 #[.pointer (some ⟨g, 0, none⟩)] w fun r w' => r = .returned (.tuple #[.int .i64 m.used, .int .i64 m.most, .int .i64 m.cells]) ∧ Fr No w w' := by
  obtain ⟨h0, h1, h2, h3, h4, h5, f0, f1, f3, f5⟩ := H.cells
  go_enter Try.func27, Try.ntmps27
  go_wp2
  go_quiet (fail)
  go_wp2
  go_ret3
  exact ⟨rfl, (Fr.refl No w).drewN _⟩
set_option maxRecDepth 100000 in
set_option maxHeartbeats 800000 in
theorem steps_c (H : Me w g m) : Calls Try.prog 28 #[.pointer (some ⟨g, 0, none⟩)] w fun r w' => r = .returned (.tuple #[.int .i64 m.done, .int .i64 m.steps]) ∧ Fr No w w' := by
  obtain ⟨h0, h1, h2, h3, h4, h5, f0, f1, f3, f5⟩ := H.cells
  go_enter Try.func28, Try.ntmps28
  go_wp2
  go_quiet (fail)
  go_wp2
  go_ret2
  exact ⟨rfl, (Fr.refl No w).drewN _⟩
/-- A number between none and a greatest one. -/
def betw (n most : Int) : Int := min (max n 0) most
set_option maxRecDepth 100000 in
set_option maxHeartbeats 800000 in
theorem between_c (n most : Int) : Calls Try.prog 44 #[.int .i64 n, .int .i64 most] w fun r w' => r = .returned (.int .i64 (betw n most)) ∧ w' = w := by
  unfold betw
  go_enter Try.func44, Try.ntmps44
  go_wp2
  all_goals
    go_ret
    refine ⟨congrArg (fun x => Ending.returned (Value.int .i64 x)) ?_, rfl⟩
    omega
set_option maxRecDepth 100000 in
set_option maxHeartbeats 800000 in
theorem new_c (a b : Int) : Calls Try.prog 26 #[.int .i64 a, .int .i64 b] w fun r w' => r = .returned (.pointer (some ⟨w.heap.size, 0, none⟩)) ∧ Me w' w.heap.size ⟨0, 0, betw a 1048576, 0, betw b 1073741824, 0⟩ ∧ Fr No w w' := by
  go_enter Try.func26, Try.ntmps26
  go_wp2_with (first | (go_at_call 44; refine (between_c _ a 1048576).mono ?_; rintro e w2 ⟨rfl, hw2⟩; replace hw2 := hw2.symm; subst hw2) | (go_at_call 44; refine (between_c _ b 1073741824).mono ?_; rintro e w2 ⟨rfl, hw2⟩; replace hw2 := hw2.symm; subst hw2))
  go_ret
  exact ⟨rfl, Blk.new _ _ _, (Fr.refl No w).alloc _⟩
theorem betw_fits (a b : Int) : Mtr.fits ⟨0, 0, betw a 1048576, 0, betw b 1073741824, 0⟩ := by
  unfold Mtr.fits betw; simp only []; omega
end
end Go.Proofs.Ytldmdlkjpdfonaa
