/- The walks of the expression reader: span. -/
import Derived.Test.YtldmdlkjpdfonaaRxW5
namespace Go.Proofs.Ytldmdlkjpdfonaa
set_option linter.unusedVariables false
set_option linter.unusedSimpArgs false
open Go Go.RowKit

theorem span_ne (s : ByteArray) (i : Nat) : Rx.span s i ≠ .out := by
  unfold Rx.span
  cases h : Rx.one s i with
  | out => exact absurd h (one_ne _ _)
  | bad k => simp [R.bind]
  | ok a j =>
    simp only [R.bind]
    split
    · cases h : Rx.one s (j + 1) with
      | out => exact absurd h (one_ne _ _)
      | bad k => simp
      | ok a j => simp only []; split <;> simp
    · simp
section
variable (b : Nat) (s : ByteArray) (i op : Nat) (w : World)
set_option maxRecDepth 100000 in
set_option maxHeartbeats 800000 in
theorem span_c (hs : s.size < 1099511627776) (hr : Rd w b s i op) :
    Calls Try.prog 80 #[.pointer (some ⟨b, 0, none⟩)] w (Out SetV w b s op (Rx.span s i)) := by
  unfold Rx.span
  have hone := one_c b s i op (w.alloc (.cells (setA 0) 35)) hs (hr.alloc _)
  cases ho : Rx.one s i with
  | out => exact absurd ho (one_ne _ _)
  | bad k =>
    rw [ho] at hone
    go_enter Try.func80, Try.ntmps80
    go_wp2_with (go_at_call 77; refine hone.mono ?_; rintro e w1 ⟨rfl, hf1⟩)
    exact ⟨rfl, rfl, Fr.trans (by repeat (first | assumption | exact Fr.refl _ _ | apply Fr.drewN | apply Fr.drew | apply Fr.alloc | apply Fr.setB | (apply Fr.setNew (hp := by first | exact Nat.le_refl _ | (simp; done) | (simp; omega))) | (refine Fr.no ?_ (by assumption)) | (refine Fr.trans ?_ (by assumption)))) hf1⟩
  | ok lo j =>
    rw [ho] at hone
    simp only [R.bind]
    by_cases hd : nx s j = 45
    · rw [if_pos hd]
      cases ho2 : Rx.one s (j + 1) with
      | out => exact absurd ho2 (one_ne _ _)
      | bad k =>
        simp only []
        go_enter Try.func80, Try.ntmps80
        go_wp2_with (go_at_call 77; refine hone.mono ?_; rintro e w1 ⟨⟨v, rfl, rfl, hlo0, hlo1⟩, hr1, hj, hf1⟩)
        go_wp2_with (go_at_call 66; refine (skip_t _ s j op _ 45 hs hr1 (by omega) hd).mono ?_; rintro e w2 ⟨rfl, hr2, hlt, hf2⟩; obtain ⟨h0, h1, h2, f1, f2⟩ := hr2.cells)
        have hone2 := one_c b s (j + 1) op w2 hs hr2
        rw [ho2] at hone2
        go_wp2_with (go_at_call 77; refine hone2.mono ?_; rintro e w3 ⟨rfl, hf3⟩)
        exact ⟨rfl, rfl, Fr.trans (Fr.trans (Fr.trans (by repeat (first | assumption | exact Fr.refl _ _ | apply Fr.drewN | apply Fr.drew | apply Fr.alloc | apply Fr.setB | (apply Fr.setNew (hp := by first | exact Nat.le_refl _ | (simp; done) | (simp; omega))) | (refine Fr.no ?_ (by assumption)) | (refine Fr.trans ?_ (by assumption)))) hf1) hf2) hf3⟩
      | ok hi l =>
        simp only []
        by_cases hle : lo ≤ hi
        · rw [if_pos hle]
          go_enter Try.func80, Try.ntmps80
          go_wp2_with (go_at_call 77; refine hone.mono ?_; rintro e w1 ⟨⟨v, rfl, rfl, hlo0, hlo1⟩, hr1, hj, hf1⟩)
          go_wp2_with (go_at_call 66; refine (skip_t _ s j op _ 45 hs hr1 (by omega) hd).mono ?_; rintro e w2 ⟨rfl, hr2, hlt, hf2⟩; obtain ⟨h0, h1, h2, f1, f2⟩ := hr2.cells)
          have hone2 := one_c b s (j + 1) op w2 hs hr2
          rw [ho2] at hone2
          have hB : Blk w2 w.heap.size 35 (setA 0) := by
            have h1' := hf1.blk (Blk.new w 35 (setA 0)) (by have := hr.lt; show ¬ w.heap.size = b; omega)
            exact hf2.blk h1' (by have := hr.lt; show ¬ w.heap.size = b; omega)
          go_wp2_with (go_at_call 77; refine hone2.mono ?_; rintro e w3 ⟨⟨v, rfl, rfl, hhi0, hhi1⟩, hr3, hl, hf3⟩)
          have hd1 : decide (lo ≤ hi) = true := decide_eq_true hle
          go_wp2_with (go_at_call 60; refine (need_t _ _ _).mono ?_; rintro e w4 ⟨rfl, rfl⟩)
          have hbw := hr.lt
          have hB3 := hf3.blk hB (by show ¬ w.heap.size = b; omega)
          obtain ⟨l, rfl⟩ := Int.eq_ofNat_of_zero_le hlo0
          obtain ⟨h, rfl⟩ := Int.eq_ofNat_of_zero_le hhi0
          go_wp2_with (first | (go_at_call 74; refine (bof_c l h _ (by omega) (by omega)).mono ?_; rintro e w5 ⟨rfl, hf5⟩) |
            ((with_reducible refine at_store _ ?_); refine wpList_store_blk rfl rfl rfl rfl (hf5.blk hB3 id) rfl infoSet (setA_one _) ?_; intro W hW hfW _))
          refine bodyPost_blk rfl rfl hW Try.underlying35 rfl infoSet rfl ?_
          refine ⟨⟨_, rfl, rfl⟩, ?_, hl, ?_⟩
          · exact (hr3.fr hf5 id).fr hfW (by show ¬ b = w.heap.size; omega)
          · refine Fr.call (Fr.no (Fr.trans (Fr.trans (Fr.trans ((Fr.refl (At b) w).alloc _) hf1) hf2) hf3) hf5) hfW ?_
            intro k hk hkk
            omega
        · rw [if_neg hle]
          have hd1 : decide (lo ≤ hi) = false := decide_eq_false hle
          go_enter Try.func80, Try.ntmps80
          go_wp2_with (go_at_call 77; refine hone.mono ?_; rintro e w1 ⟨⟨v, rfl, rfl, hlo0, hlo1⟩, hr1, hj, hf1⟩)
          go_wp2_with (go_at_call 66; refine (skip_t _ s j op _ 45 hs hr1 (by omega) hd).mono ?_; rintro e w2 ⟨rfl, hr2, hlt, hf2⟩; obtain ⟨h0, h1, h2, f1, f2⟩ := hr2.cells)
          have hone2 := one_c b s (j + 1) op w2 hs hr2
          rw [ho2] at hone2
          go_wp2_with (go_at_call 77; refine hone2.mono ?_; rintro e w3 ⟨⟨v, rfl, rfl, hhi0, hhi1⟩, hr3, hl, hf3⟩)
          go_wp2_with (go_at_call 60; refine (need_f _ _ (j + 1)).mono ?_; rintro e w4 ⟨rfl, rfl⟩)
          exact ⟨rfl, rfl, Fr.trans (Fr.trans (Fr.trans ((Fr.refl (At b) w).alloc _) hf1) hf2) hf3⟩
    · rw [if_neg hd]
      go_enter Try.func80, Try.ntmps80
      go_wp2_with (go_at_call 77; refine hone.mono ?_; rintro e w1 ⟨⟨v, rfl, rfl, hlo0, hlo1⟩, hr1, hj, hf1⟩)
      go_wp2_with (go_at_call 66; refine (skip_f _ s j op _ 45 hr1 (by omega) hd).mono ?_; rintro e w2 ⟨rfl, hr2, hf2⟩)
      have hB : Blk w2 w.heap.size 35 (setA 0) := by
        have h1' := hf1.blk (Blk.new w 35 (setA 0)) (by have := hr.lt; show ¬ w.heap.size = b; omega)
        exact hf2.blk h1' id
      have hbw := hr.lt
      go_wp2_with (first | (go_at_call 76; refine (bone_c lo _ hlo0 hlo1).mono ?_; rintro e w3 ⟨rfl, hf3⟩) |
        ((with_reducible refine at_store _ ?_); refine wpList_store_blk rfl rfl rfl rfl (hf3.blk hB id) rfl infoSet (setA_one _) ?_; intro W hW hfW _))
      refine bodyPost_blk rfl rfl hW Try.underlying35 rfl infoSet rfl ?_
      refine ⟨⟨_, rfl, rfl⟩, ?_, hj, ?_⟩
      · exact (hr2.fr hf3 id).fr hfW (by show ¬ b = w.heap.size; omega)
      · refine Fr.call (Fr.no (Fr.no (Fr.trans ((Fr.refl (At b) w).alloc _) hf1) hf2) hf3) hfW ?_
        intro k hk hkk
        omega
end
end Go.Proofs.Ytldmdlkjpdfonaa
