/- The walks of the expression reader: escape. Condition: the text has fewer than 2^40 bytes. -/
import Derived.Test.YtldmdlkjpdfonaaRxW2
namespace Go.Proofs.Ytldmdlkjpdfonaa
set_option linter.unusedVariables false
set_option linter.unusedSimpArgs false
open Go Go.RowKit

theorem hex_byte {a c : Int} (ha : 0 ≤ a) (ha' : a < 16) (hc : 0 ≤ c) (hc' : c < 16) : bits BinOp.or IntKind.i64 (a * 16) c % 256 = 16 * a + c := by
  obtain ⟨x, rfl⟩ := Int.eq_ofNat_of_zero_le ha
  obtain ⟨y, rfl⟩ := Int.eq_ofNat_of_zero_le hc
  have h : ((List.range 16).all fun x => (List.range 16).all fun y => bits BinOp.or IntKind.i64 ((x : Int) * 16) y % 256 == 16 * (x : Int) + y) = true := by decide +kernel
  have h1 := List.all_eq_true.1 (List.all_eq_true.1 h x (by simp; omega)) y (by simp; omega)
  simpa using h1
section
variable (b : Nat) (s : ByteArray) (i op : Nat) (w : World)
set_option maxRecDepth 100000 in
set_option maxHeartbeats 800000 in
theorem escape_c (hs : s.size < 1099511627776) (hr : Rd w b s i op) :
    Calls Try.prog 82 #[.pointer (some ⟨b, 0, none⟩)] w (Out ByteV w b s op (Rx.escape s i)) := by
  unfold Rx.escape
  obtain ⟨h0, h1, h2, f1, f2⟩ := hr.cells
  have hl := nx_le s i
  by_cases hp : nx s i < 0
  · rw [if_pos hp]
    have hd : decide (0 ≤ nx s i) = false := decide_eq_false (by omega)
    go_enter Try.func82, Try.ntmps82
    go_wp2_with (first | (go_at_call 70; refine (next_c _ s i op _ hr).mono ?_; rintro e w1 ⟨rfl, n, rfl⟩) | (go_at_call 60; refine (need_f _ _ i).mono ?_; rintro e w3 ⟨rfl, rfl⟩))
    exact ⟨rfl, rfl, (by repeat (first | assumption | exact Fr.refl _ _ | apply Fr.drewN | apply Fr.drew | apply Fr.alloc | apply Fr.setB | (apply Fr.setNew (hp := by first | exact Nat.le_refl _ | (simp; done) | (simp; omega))) | (refine Fr.no ?_ (by assumption)) | (refine Fr.trans ?_ (by assumption))))⟩
  · rw [if_neg hp]
    have hp' : 0 ≤ nx s i := by omega
    have hlt := nx_nonneg hp'
    by_cases hx : nx s i = 120
    · rw [if_pos hx]
      have hq : (nx s i == 120) = true := by simp [hx]
      cases hdg : Rx.digit s (i + 1) with
      | out => exact absurd hdg (digit_ne _ _)
      | bad k =>
        go_enter Try.func82, Try.ntmps82
        go_wp2_with (first | (go_at_call 70; refine (next_c _ s i op _ hr).mono ?_; rintro e w1 ⟨rfl, n, rfl⟩) | (go_at_call 60; refine (need_t _ _ _).mono ?_; rintro e w3 ⟨rfl, rfl⟩))
        have hdc := digit_c b s (i + 1) op ((w.drewN n).setCell ⟨b, 1, none⟩ (.int .i64 (i + 1))) hs (by repeat (first | assumption | apply Rd.drewN | apply Rd.drew | apply Rd.alloc | (apply Rd.setAt (hx := by omega)) | (apply Rd.setOp (hx := by omega)) | (apply Rd.far (hp := by simp only []; omega))))
        rw [hdg] at hdc
        refine hdc.mono ?_
        rintro e w2 ⟨rfl, hf2⟩
        exact ⟨rfl, rfl, Fr.trans (by repeat (first | assumption | exact Fr.refl _ _ | apply Fr.drewN | apply Fr.drew | apply Fr.alloc | apply Fr.setB | (apply Fr.setNew (hp := by first | exact Nat.le_refl _ | (simp; done) | (simp; omega))) | (refine Fr.no ?_ (by assumption)) | (refine Fr.trans ?_ (by assumption)))) hf2⟩
      | ok a j =>
        have Ha := hid (digit_ok hdg)
        simp only [R.bind]
        cases hdg2 : Rx.digit s j with
        | out => exact absurd hdg2 (digit_ne _ _)
        | bad k =>
          go_enter Try.func82, Try.ntmps82
          go_wp2_with (first | (go_at_call 70; refine (next_c _ s i op _ hr).mono ?_; rintro e w1 ⟨rfl, n, rfl⟩) | (go_at_call 60; refine (need_t _ _ _).mono ?_; rintro e w3 ⟨rfl, rfl⟩))
          have hdc := digit_c b s (i + 1) op ((w.drewN n).setCell ⟨b, 1, none⟩ (.int .i64 (i + 1))) hs (by repeat (first | assumption | apply Rd.drewN | apply Rd.drew | apply Rd.alloc | (apply Rd.setAt (hx := by omega)) | (apply Rd.setOp (hx := by omega)) | (apply Rd.far (hp := by simp only []; omega))))
          rw [hdg] at hdc
          refine hdc.mono ?_
          rintro e w2 ⟨⟨v, rfl, rfl⟩, hr2, hj, hf2⟩
          clear h0 h1 h2 f1 f2
          obtain ⟨a0, a1⟩ := Ha.out
          go_wp2_with fail
          have hdc := digit_c b s j op w2 hs hr2
          rw [hdg2] at hdc
          refine hdc.mono ?_
          rintro e w4 ⟨rfl, hf4⟩
          exact ⟨rfl, rfl, Fr.trans (Fr.trans (by repeat (first | assumption | exact Fr.refl _ _ | apply Fr.drewN | apply Fr.drew | apply Fr.alloc | apply Fr.setB | (apply Fr.setNew (hp := by first | exact Nat.le_refl _ | (simp; done) | (simp; omega))) | (refine Fr.no ?_ (by assumption)) | (refine Fr.trans ?_ (by assumption)))) hf2) hf4⟩
        | ok c l =>
          have Hc := hid (digit_ok hdg2)
          go_enter Try.func82, Try.ntmps82
          go_wp2_with (first | (go_at_call 70; refine (next_c _ s i op _ hr).mono ?_; rintro e w1 ⟨rfl, n, rfl⟩) | (go_at_call 60; refine (need_t _ _ _).mono ?_; rintro e w3 ⟨rfl, rfl⟩))
          have hdc := digit_c b s (i + 1) op ((w.drewN n).setCell ⟨b, 1, none⟩ (.int .i64 (i + 1))) hs (by repeat (first | assumption | apply Rd.drewN | apply Rd.drew | apply Rd.alloc | (apply Rd.setAt (hx := by omega)) | (apply Rd.setOp (hx := by omega)) | (apply Rd.far (hp := by simp only []; omega))))
          rw [hdg] at hdc
          refine hdc.mono ?_
          rintro e w2 ⟨⟨v, rfl, rfl⟩, hr2, hj, hf2⟩
          clear h0 h1 h2 f1 f2
          obtain ⟨a0, a1⟩ := Ha.out
          go_wp2_with fail
          have hdc := digit_c b s j op w2 hs hr2
          rw [hdg2] at hdc
          refine hdc.mono ?_
          rintro e w4 ⟨⟨v, rfl, rfl⟩, hr4, hj4, hf4⟩
          obtain ⟨c0, c1⟩ := Hc.out
          go_wp2_with fail
          go_ret
          have hb := hex_byte a0 a1 c0 c1
          exact ⟨⟨_, rfl, by rw [← hb]; rfl, by omega, by omega⟩, hr4, hj4, Fr.trans (Fr.trans (by repeat (first | assumption | exact Fr.refl _ _ | apply Fr.drewN | apply Fr.drew | apply Fr.alloc | apply Fr.setB | (apply Fr.setNew (hp := by first | exact Nat.le_refl _ | (simp; done) | (simp; omega))) | (refine Fr.no ?_ (by assumption)) | (refine Fr.trans ?_ (by assumption)))) hf2) hf4⟩
    · rw [if_neg hx]
      have hq : (nx s i == 120) = false := by simp [hx]
      clear hx
      by_cases hx : nx s i = 110
      · rw [if_pos hx]
        have hq2 : (nx s i == 110) = true := by simp [hx]
        clear hx
        go_enter Try.func82, Try.ntmps82
        go_wp2_with (first | (go_at_call 70; refine (next_c _ s i op _ hr).mono ?_; rintro e w1 ⟨rfl, n, rfl⟩) | (go_at_call 60; refine (need_t _ _ _).mono ?_; rintro e w3 ⟨rfl, rfl⟩))
        go_ret
        exact ⟨⟨_, rfl, rfl, by omega, by omega⟩, (by repeat (first | assumption | apply Rd.drewN | apply Rd.drew | apply Rd.alloc | (apply Rd.setAt (hx := by omega)) | (apply Rd.setOp (hx := by omega)) | (apply Rd.far (hp := by simp only []; omega)))), by omega, (by repeat (first | assumption | exact Fr.refl _ _ | apply Fr.drewN | apply Fr.drew | apply Fr.alloc | apply Fr.setB | (apply Fr.setNew (hp := by first | exact Nat.le_refl _ | (simp; done) | (simp; omega))) | (refine Fr.no ?_ (by assumption)) | (refine Fr.trans ?_ (by assumption))))⟩
      · rw [if_neg hx]
        have hq2 : (nx s i == 110) = false := by simp [hx]
        clear hx
        by_cases hx : nx s i = 116
        · rw [if_pos hx]
          have hq2 : (nx s i == 116) = true := by simp [hx]
          clear hx
          go_enter Try.func82, Try.ntmps82
          go_wp2_with (first | (go_at_call 70; refine (next_c _ s i op _ hr).mono ?_; rintro e w1 ⟨rfl, n, rfl⟩) | (go_at_call 60; refine (need_t _ _ _).mono ?_; rintro e w3 ⟨rfl, rfl⟩))
          go_ret
          exact ⟨⟨_, rfl, rfl, by omega, by omega⟩, (by repeat (first | assumption | apply Rd.drewN | apply Rd.drew | apply Rd.alloc | (apply Rd.setAt (hx := by omega)) | (apply Rd.setOp (hx := by omega)) | (apply Rd.far (hp := by simp only []; omega)))), by omega, (by repeat (first | assumption | exact Fr.refl _ _ | apply Fr.drewN | apply Fr.drew | apply Fr.alloc | apply Fr.setB | (apply Fr.setNew (hp := by first | exact Nat.le_refl _ | (simp; done) | (simp; omega))) | (refine Fr.no ?_ (by assumption)) | (refine Fr.trans ?_ (by assumption))))⟩
        · rw [if_neg hx]
          have hq3 : (nx s i == 116) = false := by simp [hx]
          clear hx
          have hw1 := IntWalk.u8_in (nx s i) (by omega)
          have hw2 := IntWalk.i64_in ((i : Int) + 1 - 1) (by omega)
          rw [show (i : Int) + 1 - 1 = i by omega] at hw2
          have Hx := hid (ixBytes [124, 42, 43, 63, 40, 41, 91, 93, 123, 125, 46, 92, 94, 36, 45] special (by decide +kernel) hp' (by omega))
          by_cases hsp : 0 ≤ ixOf special (nx s i)
          · rw [if_pos hsp]
            go_enter Try.func82, Try.ntmps82
            go_wp2_with (first | (go_at_call 70; refine (next_c _ s i op _ hr).mono ?_; rintro e w1 ⟨rfl, n, rfl⟩) | (go_at_call 60; refine (need_t _ _ _).mono ?_; rintro e w3 ⟨rfl, rfl⟩))
            refine wp_world (fun W => Rd W b s (i + 1) op ∧ Fr (At b) w W) ⟨(by repeat (first | assumption | apply Rd.drewN | apply Rd.drew | apply Rd.alloc | (apply Rd.setAt (hx := by omega)) | (apply Rd.setOp (hx := by omega)) | (apply Rd.far (hp := by simp only []; omega)))), (by repeat (first | assumption | exact Fr.refl _ _ | apply Fr.drewN | apply Fr.drew | apply Fr.alloc | apply Fr.setB | (apply Fr.setNew (hp := by first | exact Nat.le_refl _ | (simp; done) | (simp; omega))) | (refine Fr.no ?_ (by assumption)) | (refine Fr.trans ?_ (by assumption))))⟩ ?_
            rintro W ⟨hr', hf'⟩; clear h0 h1 h2 f1 f2 hr; obtain ⟨h0, h1, h2, f1, f2⟩ := hr'.cells
            go_region_held3 (fun w' => w'.cell? ⟨b, 1, none⟩ = some (.int .i64 (i + 1))) (go_keep) (first | (go_at_call 85; refine (Try.strings_IndexByte _ _ _).mono ?_; rintro e w2 ⟨rfl, rfl⟩; rw [Hx.out]) | (go_at_call 60; refine (need_t _ _ _).mono ?_; rintro e w3 ⟨rfl, rfl⟩))
            go_wp2
            go_ret
            exact ⟨⟨_, rfl, rfl, by omega, by omega⟩, (by repeat (first | assumption | apply Rd.drewN | apply Rd.drew | apply Rd.alloc | (apply Rd.setAt (hx := by omega)) | (apply Rd.setOp (hx := by omega)) | (apply Rd.far (hp := by simp only []; omega)))), by omega, (by repeat (first | assumption | exact Fr.refl _ _ | apply Fr.drewN | apply Fr.drew | apply Fr.alloc | apply Fr.setB | (apply Fr.setNew (hp := by first | exact Nat.le_refl _ | (simp; done) | (simp; omega))) | (refine Fr.no ?_ (by assumption)) | (refine Fr.trans ?_ (by assumption))))⟩
          · rw [if_neg hsp]
            have hd := decide_eq_false hsp
            clear hsp
            go_enter Try.func82, Try.ntmps82
            go_wp2_with (first | (go_at_call 70; refine (next_c _ s i op _ hr).mono ?_; rintro e w1 ⟨rfl, n, rfl⟩) | (go_at_call 60; refine (need_t _ _ _).mono ?_; rintro e w3 ⟨rfl, rfl⟩))
            refine wp_world (fun W => Rd W b s (i + 1) op ∧ Fr (At b) w W) ⟨(by repeat (first | assumption | apply Rd.drewN | apply Rd.drew | apply Rd.alloc | (apply Rd.setAt (hx := by omega)) | (apply Rd.setOp (hx := by omega)) | (apply Rd.far (hp := by simp only []; omega)))), (by repeat (first | assumption | exact Fr.refl _ _ | apply Fr.drewN | apply Fr.drew | apply Fr.alloc | apply Fr.setB | (apply Fr.setNew (hp := by first | exact Nat.le_refl _ | (simp; done) | (simp; omega))) | (refine Fr.no ?_ (by assumption)) | (refine Fr.trans ?_ (by assumption))))⟩ ?_
            rintro W ⟨hr', hf'⟩; clear h0 h1 h2 f1 f2 hr; obtain ⟨h0, h1, h2, f1, f2⟩ := hr'.cells
            refine wp_region_still_tail 10 (by kernel_rfl) (by kernel_rfl) ?_
            simp only [List.take_succ_cons, List.take_zero, List.drop_succ_cons, List.drop_zero]
            repeat still_step
            still_call (Try.strings_IndexByte _ _ _)
            rw [Hx.out]
            repeat still_step
            refine wpStill_nil ?_
            change wpList _ _ _ _ _ W.drew
            go_wp2_with (go_at_call 60; refine (need_f _ _ i).mono ?_; rintro e w3 ⟨rfl, rfl⟩)
            exact ⟨rfl, rfl, (by repeat (first | assumption | exact Fr.refl _ _ | apply Fr.drewN | apply Fr.drew | apply Fr.alloc | apply Fr.setB | (apply Fr.setNew (hp := by first | exact Nat.le_refl _ | (simp; done) | (simp; omega))) | (refine Fr.no ?_ (by assumption)) | (refine Fr.trans ?_ (by assumption))))⟩
end
end Go.Proofs.Ytldmdlkjpdfonaa
