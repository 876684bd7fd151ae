/- The walks of the expression reader: number. -/
import Derived.Test.YtldmdlkjpdfonaaRxW7
namespace Go.Proofs.Ytldmdlkjpdfonaa
set_option linter.unusedVariables false
set_option linter.unusedSimpArgs false
open Go Go.RowKit

theorem isDig_iff {c : Int} : Rx.isDig c = true ↔ 48 ≤ c ∧ c ≤ 57 := by unfold Rx.isDig; simp
section
variable (b : Nat) (s : ByteArray) (i op : Nat) (w : World)
set_option maxRecDepth 100000 in
set_option maxHeartbeats 1600000 in
theorem number_c (hs : s.size < 1099511627776) (hr : Rd w b s i op) :
    Calls Try.prog 78 #[.pointer (some ⟨b, 0, none⟩)] w (Out IntV w b s op (Rx.number s i)) := by
  unfold Rx.number
  obtain ⟨h0, h1, h2, f1, f2⟩ := hr.cells
  by_cases hd0 : Rx.isDig (nx s i) = true
  · rw [if_pos hd0]
    obtain ⟨a0, a1⟩ := isDig_iff.1 hd0
    have hlt := nx_nonneg (s := s) (i := i) (by omega)
    clear hd0
    by_cases hd1 : Rx.isDig (nx s (i + 1)) = true
    · rw [if_pos hd1]
      obtain ⟨b0, b1⟩ := isDig_iff.1 hd1
      have hlt1 := nx_nonneg (s := s) (i := i + 1) (by omega)
      clear hd1
      have hE : 10 * (nx s i - 48) + nx s (i + 1) - 48 = 10 * (nx s i - 48) + (nx s (i + 1) - 48) := by omega
      have HE := hid hE
      by_cases hle : 10 * (nx s i - 48) + (nx s (i + 1) - 48) ≤ 20
      · rw [if_pos hle]
        have hle' : 10 * (nx s i - 48) + nx s (i + 1) - 48 ≤ 20 := by omega
        clear hle hE
        go_enter Try.func78, Try.ntmps78
        go_wp2_with (go_at_call 70; refine (next_c _ s i op _ hr).mono ?_; rintro e w1 ⟨rfl, n, rfl⟩)
        refine wp_loop_rounds 3 ?_
        rw [rounds_succ]
        go_wp2_with (go_at_call 70; refine (next_c _ s (i + 1) op _ (Rd.setAt (i := i) (hr.drewN _) (by omega))).mono ?_; rintro e w1 ⟨rfl, n1, rfl⟩)
        rw [rounds_succ]
        go_wp2_with (go_at_call 70; refine (next_c _ s (i + 2) op _ (Rd.setAt (i := i + 1) (Rd.drewN (Rd.setAt (i := i) (hr.drewN _) (by omega)) _) (by omega))).mono ?_; rintro e w1 ⟨rfl, n2, rfl⟩)
        rw [rounds_succ]
        go_wp2_with (go_at_call 60; refine (need_h _ _ _ _ (by first | rfl | (simp; omega))).mono ?_; rintro e w3 ⟨rfl, rfl⟩)
        all_goals
          go_ret
          exact ⟨⟨_, rfl, by rw [← HE.out]; rfl⟩, Rd.drewN (Rd.setAt (i := i + 1) (Rd.drewN (Rd.setAt (i := i) (hr.drewN _) (by omega)) _) (by omega)) _, by omega, (by repeat (first | assumption | exact Fr.refl _ _ | apply Fr.drewN | apply Fr.drew | apply Fr.alloc | apply Fr.setB | (apply Fr.setNew (hp := by first | exact Nat.le_refl _ | (simp; done) | (simp; omega))) | (refine Fr.no ?_ (by assumption)) | (refine Fr.trans ?_ (by assumption))))⟩
      · rw [if_neg hle]
        have hle' : 20 < 10 * (nx s i - 48) + nx s (i + 1) - 48 := by omega
        clear hle hE
        go_enter Try.func78, Try.ntmps78
        go_wp2_with (go_at_call 70; refine (next_c _ s i op _ hr).mono ?_; rintro e w1 ⟨rfl, n, rfl⟩)
        refine wp_loop_rounds 3 ?_
        rw [rounds_succ]
        go_wp2_with (go_at_call 70; refine (next_c _ s (i + 1) op _ (Rd.setAt (i := i) (hr.drewN _) (by omega))).mono ?_; rintro e w1 ⟨rfl, n1, rfl⟩)
        rw [rounds_succ]
        go_wp2_with (go_at_call 70; refine (next_c _ s (i + 2) op _ (Rd.setAt (i := i + 1) (Rd.drewN (Rd.setAt (i := i) (hr.drewN _) (by omega)) _) (by omega))).mono ?_; rintro e w1 ⟨rfl, n2, rfl⟩)
        rw [rounds_succ]
        go_wp2_with (go_at_call 60; refine (need_g _ _ _ _ (by first | rfl | (simp; omega))).mono ?_; rintro e w3 ⟨rfl, rfl⟩)
        all_goals exact ⟨rfl, rfl, (by repeat (first | assumption | exact Fr.refl _ _ | apply Fr.drewN | apply Fr.drew | apply Fr.alloc | apply Fr.setB | (apply Fr.setNew (hp := by first | exact Nat.le_refl _ | (simp; done) | (simp; omega))) | (refine Fr.no ?_ (by assumption)) | (refine Fr.trans ?_ (by assumption))))⟩
    · rw [if_neg hd1]
      have hd1' : nx s (i + 1) < 48 ∨ 57 < nx s (i + 1) := by
        rcases Int.lt_or_le (nx s (i + 1)) 48 with h | h
        · exact .inl h
        · refine .inr (Int.not_le.1 fun h' => hd1 (isDig_iff.2 ⟨h, h'⟩))
      clear hd1
      rcases hd1' with hd1 | hd1
      all_goals
          go_enter Try.func78, Try.ntmps78
          go_wp2_with (go_at_call 70; refine (next_c _ s i op _ hr).mono ?_; rintro e w1 ⟨rfl, n, rfl⟩)
          refine wp_loop_rounds 2 ?_
          rw [rounds_succ]
          go_wp2_with (go_at_call 70; refine (next_c _ s (i + 1) op _ (Rd.setAt (i := i) (hr.drewN _) (by omega))).mono ?_; rintro e w1 ⟨rfl, n1, rfl⟩)
          rw [rounds_succ]
          go_wp2_with (go_at_call 60; refine (need_h _ _ _ _ (by first | rfl | (simp; omega))).mono ?_; rintro e w3 ⟨rfl, rfl⟩)
          go_ret
          exact ⟨⟨_, rfl, rfl⟩, Rd.drewN (Rd.setAt (i := i) (hr.drewN _) (by omega)) _, by omega, (by repeat (first | assumption | exact Fr.refl _ _ | apply Fr.drewN | apply Fr.drew | apply Fr.alloc | apply Fr.setB | (apply Fr.setNew (hp := by first | exact Nat.le_refl _ | (simp; done) | (simp; omega))) | (refine Fr.no ?_ (by assumption)) | (refine Fr.trans ?_ (by assumption))))⟩
  · rw [if_neg hd0]
    have hd0' : nx s i < 48 ∨ 57 < nx s i := by
      rcases Int.lt_or_le (nx s i) 48 with h | h
      · exact .inl h
      · refine .inr (Int.not_le.1 fun h' => hd0 (isDig_iff.2 ⟨h, h'⟩))
    clear hd0
    rcases hd0' with hd0 | hd0
    all_goals
        go_enter Try.func78, Try.ntmps78
        go_wp2_with (go_at_call 70; refine (next_c _ s i op _ hr).mono ?_; rintro e w1 ⟨rfl, n, rfl⟩)
        refine wp_loop_rounds 1 ?_
        rw [rounds_succ]
        go_wp2_with (go_at_call 60; refine (need_g _ _ _ _ (by first | rfl | (simp; omega))).mono ?_; rintro e w3 ⟨rfl, rfl⟩)
        exact ⟨rfl, rfl, (by repeat (first | assumption | exact Fr.refl _ _ | apply Fr.drewN | apply Fr.drew | apply Fr.alloc | apply Fr.setB | (apply Fr.setNew (hp := by first | exact Nat.le_refl _ | (simp; done) | (simp; omega))) | (refine Fr.no ?_ (by assumption)) | (refine Fr.trans ?_ (by assumption))))⟩
end
end Go.Proofs.Ytldmdlkjpdfonaa
