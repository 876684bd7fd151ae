/- The walks of the expression reader: bounds. -/
import Derived.Test.YtldmdlkjpdfonaaRxW8
namespace Go.Proofs.Ytldmdlkjpdfonaa
set_option linter.unusedVariables false
set_option linter.unusedSimpArgs false
open Go Go.RowKit

def PairV : World → Value → Int × Int → Prop := fun _ v a => v = .tuple #[.int .i64 a.1, .int .i64 a.2]
theorem number_ne (s : ByteArray) (i : Nat) : Rx.number s i ≠ .out := by
  unfold Rx.number
  repeat (first | split | simp)
theorem number_bd {s : ByteArray} {i j : Nat} {a : Int} (h : Rx.number s i = .ok a j) : 0 ≤ a ∧ a ≤ 20 ∧ i < j ∧ j ≤ s.size := by
  unfold Rx.number at h
  split at h
  · rename_i h0
    obtain ⟨a0, a1⟩ := isDig_iff.1 h0
    have := nx_nonneg (s := s) (i := i) (by omega)
    split at h
    · rename_i h1
      obtain ⟨b0, b1⟩ := isDig_iff.1 h1
      have := nx_nonneg (s := s) (i := i + 1) (by omega)
      split at h
      · injection h; omega
      · cases h
    · injection h; omega
  · cases h
theorem must_ne (s : ByteArray) (c : Int) (i : Nat) : Rx.must s c i ≠ .out := by unfold Rx.must; split <;> simp
theorem must_ok {s : ByteArray} {c : Int} {i j : Nat} {u : Unit} (h : Rx.must s c i = .ok u j) : nx s i = c ∧ j = i + 1 := by
  unfold Rx.must at h
  split at h
  · rename_i h0; injection h with _ h1; exact ⟨h0, h1.symm⟩
  · cases h
theorem bounds_ne (s : ByteArray) (i : Nat) : Rx.bounds s i ≠ .out := by
  unfold Rx.bounds
  cases h : Rx.number s i with
  | out => exact absurd h (number_ne _ _)
  | bad k => simp [R.bind]
  | ok a j =>
    simp only [R.bind]
    split
    · split
      · simp
      · cases h : Rx.number s (j + 1) with
        | out => exact absurd h (number_ne _ _)
        | bad k => simp
        | ok c l =>
          simp only []
          split
          · cases h : Rx.must s 125 l with
            | out => exact absurd h (must_ne _ _ _)
            | bad k => simp
            | ok c l => simp
          · simp
    · cases h : Rx.must s 125 j with
      | out => exact absurd h (must_ne _ _ _)
      | bad k => simp
      | ok c l => simp
theorem bounds_bd {s : ByteArray} {i j : Nat} {a : Int × Int} (h : Rx.bounds s i = .ok a j) : i < j ∧ j ≤ s.size ∧ 0 ≤ a.1 ∧ a.1 ≤ 20 ∧ (a.2 = -1 ∨ (a.1 ≤ a.2 ∧ a.2 ≤ 20)) := by
  unfold Rx.bounds at h
  cases h1 : Rx.number s i with
  | out => rw [h1] at h; cases h
  | bad k => rw [h1] at h; cases h
  | ok x y =>
    rw [h1] at h
    simp only [R.bind] at h
    have g1 := number_bd h1
    split at h
    · split at h
      · rename_i h2 h3
        have := nx_nonneg (s := s) (i := y + 1) (by omega)
        injection h with h4 h5
        subst h4
        refine ⟨by omega, by omega, g1.1, g1.2.1, .inl rfl⟩
      · cases h2 : Rx.number s (y + 1) with
        | out => rw [h2] at h; cases h
        | bad k => rw [h2] at h; cases h
        | ok c l =>
          rw [h2] at h
          simp only [] at h
          have g2 := number_bd h2
          split at h
          · rename_i hle
            cases h3 : Rx.must s 125 l with
            | out => rw [h3] at h; cases h
            | bad k => rw [h3] at h; cases h
            | ok u z =>
              rw [h3] at h
              obtain ⟨h5, h6⟩ := must_ok h3
              have := nx_nonneg (s := s) (i := l) (by omega)
              injection h with h4 h7
              subst h4
              exact ⟨by omega, by omega, g1.1, g1.2.1, .inr ⟨hle, g2.2.1⟩⟩
          · cases h
    · cases h3 : Rx.must s 125 y with
      | out => rw [h3] at h; cases h
      | bad k => rw [h3] at h; cases h
      | ok u z =>
        rw [h3] at h
        obtain ⟨h5, h6⟩ := must_ok h3
        have := nx_nonneg (s := s) (i := y) (by omega)
        injection h with h4 h7
        subst h4
        exact ⟨by omega, by omega, g1.1, g1.2.1, .inr ⟨Int.le_refl _, g1.2.1⟩⟩
section
variable (b : Nat) (s : ByteArray) (i op : Nat) (w : World)
set_option maxRecDepth 100000 in
set_option maxHeartbeats 1600000 in
theorem bounds_c (hs : s.size < 1099511627776) (hr : Rd w b s i op) :
    Calls Try.prog 72 #[.pointer (some ⟨b, 0, none⟩)] w (Out PairV w b s op (Rx.bounds s i)) := by
  unfold Rx.bounds
  have hn1 := number_c b s i op w hs hr
  cases ho : Rx.number s i with
  | out => exact absurd ho (number_ne _ _)
  | bad k =>
    rw [ho] at hn1
    go_enter Try.func72, Try.ntmps72
    go_wp2_with (go_at_call 78; refine hn1.mono ?_; rintro e w1 ⟨rfl, hf1⟩)
    exact ⟨rfl, rfl, hf1⟩
  | ok m j =>
    rw [ho] at hn1
    obtain ⟨m0, m1, hj0, hj1⟩ := number_bd ho
    simp only [R.bind]
    by_cases hc : nx s j = 44
    · rw [if_pos hc]
      by_cases hq : nx s (j + 1) = 125
      · rw [if_pos hq]
        have hq' : (nx s (j + 1) != 125) = false := by simp [hq]
        have Hq := hid hq
        clear hq
        have hmu := fun (W : World) (hW : Rd W b s (j + 1) op) => must_c b s (j + 1) op W 125 hs hW (by omega)
        unfold Rx.must at hmu
        simp only [if_pos Hq.out] at hmu
        have Hmu := hid hmu
        clear hmu
        go_enter Try.func72, Try.ntmps72
        go_wp2_with (first | (go_at_call 78; refine hn1.mono ?_; rintro e w1 ⟨⟨v, rfl, rfl⟩, hr1, hj, hf1⟩) |
          (go_at_call 66; refine (skip_t _ s j op _ 44 hs hr1 (by omega) hc).mono ?_; rintro e w2 ⟨rfl, hr2, hlt, hf2⟩; obtain ⟨h0, h1, h2, f1, f2⟩ := hr2.cells) |
          (go_at_call 70; refine (next_c _ s (j + 1) op _ hr2).mono ?_; rintro e w3 ⟨rfl, n, rfl⟩) |
          (go_at_call 73; refine (Hmu.out _ (by repeat (first | assumption | apply Rd.drewN | apply Rd.drew | apply Rd.alloc | (apply Rd.setAt (hx := by omega)) | (apply Rd.setOp (hx := by omega)) | (apply Rd.far (hp := by simp only []; omega))))).mono ?_; rintro e w4 ⟨⟨v, rfl, rfl⟩, hr4, hj4, hf4⟩))
        go_ret2
        exact ⟨⟨_, rfl, rfl⟩, hr4, hj4, Fr.trans (Fr.trans hf1 hf2) (Fr.undrewN hf4)⟩
      · rw [if_neg hq]
        have hq' : (nx s (j + 1) != 125) = true := by simp [hq]
        clear hq
        have hn2 := fun (W : World) (hW : Rd W b s (j + 1) op) => number_c b s (j + 1) op W hs hW
        cases ho2 : Rx.number s (j + 1) with
        | out => exact absurd ho2 (number_ne _ _)
        | bad k =>
          rw [ho2] at hn2
          have Hn2 := hid hn2
          clear hn2
          go_enter Try.func72, Try.ntmps72
          go_wp2_with (go_at_call 78; refine hn1.mono ?_; rintro e w1 ⟨⟨v, rfl, rfl⟩, hr1, hj, hf1⟩)
          go_wp2_with (first | (go_at_call 66; refine (skip_t _ s j op _ 44 hs hr1 (by omega) hc).mono ?_; rintro e w2 ⟨rfl, hr2, hlt, hf2⟩; obtain ⟨h0, h1, h2, f1, f2⟩ := hr2.cells) |
            (go_at_call 70; refine (next_c _ s (j + 1) op _ hr2).mono ?_; rintro e w3 ⟨rfl, n, rfl⟩) |
            (go_at_call 78; refine (Hn2.out _ (by repeat (first | assumption | apply Rd.drewN | apply Rd.drew | apply Rd.alloc | (apply Rd.setAt (hx := by omega)) | (apply Rd.setOp (hx := by omega)) | (apply Rd.far (hp := by simp only []; omega))))).mono ?_; rintro e w4 ⟨rfl, hf4⟩))
          exact ⟨rfl, rfl, Fr.trans (Fr.trans hf1 hf2) (Fr.undrewN hf4)⟩
        | ok c l =>
          rw [ho2] at hn2
          obtain ⟨c0, c1, hl0, hl1⟩ := number_bd ho2
          have Hn2 := hid hn2
          clear hn2
          simp only [R.bind]
          by_cases hle : m ≤ c
          · rw [if_pos hle]
            have Hmu := hid (fun (W : World) (hW : Rd W b s l op) => must_c b s l op W 125 hs hW (by omega))
            cases hm : Rx.must s 125 l with
            | out => exact absurd hm (must_ne _ _ _)
            | bad k =>
              go_enter Try.func72, Try.ntmps72
              go_wp2_with (go_at_call 78; refine hn1.mono ?_; rintro e w1 ⟨⟨v, rfl, rfl⟩, hr1, hj, hf1⟩)
              go_wp2_with (first | (go_at_call 66; refine (skip_t _ s j op _ 44 hs hr1 (by omega) hc).mono ?_; rintro e w2 ⟨rfl, hr2, hlt, hf2⟩; obtain ⟨h0, h1, h2, f1, f2⟩ := hr2.cells) |
                (go_at_call 70; refine (next_c _ s (j + 1) op _ hr2).mono ?_; rintro e w3 ⟨rfl, n, rfl⟩) |
                (go_at_call 78; refine (Hn2.out _ (by repeat (first | assumption | apply Rd.drewN | apply Rd.drew | apply Rd.alloc | (apply Rd.setAt (hx := by omega)) | (apply Rd.setOp (hx := by omega)) | (apply Rd.far (hp := by simp only []; omega))))).mono ?_; rintro e w4 ⟨⟨v, rfl, rfl⟩, hr4, hj4, hf4⟩) |
                (go_at_call 60; refine (need_h _ _ _ _ (by first | rfl | assumption | (simp; omega))).mono ?_; rintro e wn ⟨rfl, rfl⟩))
              have hmm := Hmu.out _ hr4
              rw [hm] at hmm
              go_wp2_with (go_at_call 73; refine hmm.mono ?_; rintro e w5 ⟨rfl, hf5⟩)
              exact ⟨rfl, rfl, Fr.trans (Fr.trans (Fr.trans hf1 hf2) (Fr.undrewN hf4)) hf5⟩
            | ok u k' =>
              go_enter Try.func72, Try.ntmps72
              go_wp2_with (go_at_call 78; refine hn1.mono ?_; rintro e w1 ⟨⟨v, rfl, rfl⟩, hr1, hj, hf1⟩)
              go_wp2_with (first | (go_at_call 66; refine (skip_t _ s j op _ 44 hs hr1 (by omega) hc).mono ?_; rintro e w2 ⟨rfl, hr2, hlt, hf2⟩; obtain ⟨h0, h1, h2, f1, f2⟩ := hr2.cells) |
                (go_at_call 70; refine (next_c _ s (j + 1) op _ hr2).mono ?_; rintro e w3 ⟨rfl, n, rfl⟩) |
                (go_at_call 78; refine (Hn2.out _ (by repeat (first | assumption | apply Rd.drewN | apply Rd.drew | apply Rd.alloc | (apply Rd.setAt (hx := by omega)) | (apply Rd.setOp (hx := by omega)) | (apply Rd.far (hp := by simp only []; omega))))).mono ?_; rintro e w4 ⟨⟨v, rfl, rfl⟩, hr4, hj4, hf4⟩) |
                (go_at_call 60; refine (need_h _ _ _ _ (by first | rfl | assumption | (simp; omega))).mono ?_; rintro e wn ⟨rfl, rfl⟩))
              have hmm := Hmu.out _ hr4
              rw [hm] at hmm
              go_wp2_with (go_at_call 73; refine hmm.mono ?_; rintro e w5 ⟨⟨v, rfl, rfl⟩, hr5, hj5, hf5⟩)
              go_ret2
              exact ⟨⟨_, rfl, rfl⟩, hr5, hj5, Fr.trans (Fr.trans (Fr.trans hf1 hf2) (Fr.undrewN hf4)) hf5⟩
          · rw [if_neg hle]
            go_enter Try.func72, Try.ntmps72
            go_wp2_with (go_at_call 78; refine hn1.mono ?_; rintro e w1 ⟨⟨v, rfl, rfl⟩, hr1, hj, hf1⟩)
            go_wp2_with (first | (go_at_call 66; refine (skip_t _ s j op _ 44 hs hr1 (by omega) hc).mono ?_; rintro e w2 ⟨rfl, hr2, hlt, hf2⟩; obtain ⟨h0, h1, h2, f1, f2⟩ := hr2.cells) |
              (go_at_call 70; refine (next_c _ s (j + 1) op _ hr2).mono ?_; rintro e w3 ⟨rfl, n, rfl⟩) |
              (go_at_call 78; refine (Hn2.out _ (by repeat (first | assumption | apply Rd.drewN | apply Rd.drew | apply Rd.alloc | (apply Rd.setAt (hx := by omega)) | (apply Rd.setOp (hx := by omega)) | (apply Rd.far (hp := by simp only []; omega))))).mono ?_; rintro e w4 ⟨⟨v, rfl, rfl⟩, hr4, hj4, hf4⟩) |
              (go_at_call 60; refine (need_g _ _ _ _ (by first | rfl | assumption | (simp; omega))).mono ?_; rintro e wn ⟨rfl, rfl⟩))
            exact ⟨rfl, rfl, Fr.trans (Fr.trans hf1 hf2) (Fr.undrewN hf4)⟩
    · rw [if_neg hc]
      have hmu := fun (W : World) (hW : Rd W b s j op) => must_c b s j op W 125 hs hW (by omega)
      have Hmu := hid hmu
      clear hmu
      cases hm : Rx.must s 125 j with
      | out => exact absurd hm (must_ne _ _ _)
      | bad k =>
        go_enter Try.func72, Try.ntmps72
        go_wp2_with (go_at_call 78; refine hn1.mono ?_; rintro e w1 ⟨⟨v, rfl, rfl⟩, hr1, hj, hf1⟩)
        go_wp2_with (go_at_call 66; refine (skip_f _ s j op _ 44 hr1 (by omega) hc).mono ?_; rintro e w2 ⟨rfl, hr2, hf2⟩)
        have hmm := Hmu.out _ hr2
        rw [hm] at hmm
        go_wp2_with (go_at_call 73; refine hmm.mono ?_; rintro e w5 ⟨rfl, hf5⟩)
        exact ⟨rfl, rfl, Fr.trans (Fr.no hf1 hf2) hf5⟩
      | ok u k' =>
        go_enter Try.func72, Try.ntmps72
        go_wp2_with (go_at_call 78; refine hn1.mono ?_; rintro e w1 ⟨⟨v, rfl, rfl⟩, hr1, hj, hf1⟩)
        go_wp2_with (go_at_call 66; refine (skip_f _ s j op _ 44 hr1 (by omega) hc).mono ?_; rintro e w2 ⟨rfl, hr2, hf2⟩)
        have hmm := Hmu.out _ hr2
        rw [hm] at hmm
        go_wp2_with (go_at_call 73; refine hmm.mono ?_; rintro e w5 ⟨⟨v, rfl, rfl⟩, hr5, hj5, hf5⟩)
        go_ret2
        exact ⟨⟨_, rfl, rfl⟩, hr5, hj5, Fr.trans (Fr.no hf1 hf2) hf5⟩
end
end Go.Proofs.Ytldmdlkjpdfonaa
