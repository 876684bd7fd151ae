/- The walk of sieveref07's parser: one. Condition: the text has fewer than 2^40 bytes, the place is within it. -/
import Derived.Test.YtcphepjfnnbonaaPf2
import Derived.Test.YtcphepjfnnbonaaRxW7
namespace Go.Proofs.Ytcphepjfnnbonaa
set_option linter.unusedVariables false
set_option linter.unusedSimpArgs false
open Go Go.RowKit

def specB : ByteArray := ⟨#[124, 42, 43, 63, 40, 41, 91, 93, 123, 125, 46, 92, 94, 36, 45]⟩
theorem spec_ix (c : Int) : inB specB c = decide (0 ≤ ixOf special c) := inB_ix specB special (by decide) c
section
variable (b : Nat) (s : ByteArray) (i op : Nat) (w : World)
set_option maxHeartbeats 1600000 in
theorem pone_plain (hs : s.size < 1099511627776) (hr : Ps w b s i (-1) op) (h0 : 0 ≤ nx s i) (hp : plainB (nx s i) = true) :
    Calls Try.prog 46 #[.pointer (some ⟨b, 0, none⟩)] w (OutP ByteW w b s op (.ok (nx s i) (i + 1))) := by
  have hlt := nx_nonneg h0
  have hle := nx_le s i
  have hP := fun W => rplain_c (nx s i) W (by omega)
  rw [decide_eq_true h0, hp] at hP
  clear hp
  obtain ⟨h00, h1, h2, h3, f1, f2, f3⟩ := hr.cells
  go_enter Try.func46, Try.ntmps46
  go_wp2_with (first | (go_at_call 28; refine (pnext_a _ s i _ _ (by repeat (first | assumption | apply Ps.drewN | apply Ps.drew | apply Ps.alloc | (apply Ps.setAt (hx := by first | rfl | omega)) | (apply Ps.setBad (hx := by omega)) | (apply Ps.setOp (hx := by omega)) | (apply Ps.far (hp := by simp only []; omega))))).mono ?_; rintro e wn ⟨rfl, nn, rfl⟩) |
    (go_at_call 54; refine (hP _).mono ?_; rintro e w2 ⟨rfl, hf2⟩; have hr2 := (hr.drewN nn).fr hf2 id; clear h00 h1 h2 h3 f1 f2 f3; obtain ⟨h00, h1, h2, h3, f1, f2, f3⟩ := hr2.cells))
  go_ret
  exact ⟨⟨_, rfl, rfl, h0, by omega⟩, (by repeat (first | assumption | apply Ps.drewN | apply Ps.drew | apply Ps.alloc | (apply Ps.setAt (hx := by first | rfl | omega)) | (apply Ps.setBad (hx := by omega)) | (apply Ps.setOp (hx := by omega)) | (apply Ps.far (hp := by simp only []; omega)))), by omega, (((Fr.refl (At b) w).drewN nn).no hf2).setB 1 _⟩
set_option maxHeartbeats 1600000 in
theorem pone_bad (hs : s.size < 1099511627776) (hr : Ps w b s i (-1) op) (hi : i ≤ s.size) (h92 : nx s i ≠ 92) (hp : (decide (0 ≤ nx s i) && plainB (nx s i)) = false) :
    Calls Try.prog 46 #[.pointer (some ⟨b, 0, none⟩)] w (OutP ByteW w b s op (.bad i)) := by
  have hle := nx_le s i
  have hP := fun W => rplain_c (nx s i) W (by omega)
  rw [hp] at hP
  have hq : (nx s i != 92) = true := by simp [h92]
  clear hp h92
  obtain ⟨h00, h1, h2, h3, f1, f2, f3⟩ := hr.cells
  go_enter Try.func46, Try.ntmps46
  go_wp2_with (first | (go_at_call 28; refine (pnext_a _ s i _ _ (by repeat (first | assumption | apply Ps.drewN | apply Ps.drew | apply Ps.alloc | (apply Ps.setAt (hx := by first | rfl | omega)) | (apply Ps.setBad (hx := by omega)) | (apply Ps.setOp (hx := by omega)) | (apply Ps.far (hp := by simp only []; omega))))).mono ?_; rintro e wn ⟨rfl, nn, rfl⟩) |
    (go_at_call 54; refine (hP _).mono ?_; rintro e w2 ⟨rfl, hf2⟩; have hr2 := (hr.drewN nn).fr hf2 id; clear h00 h1 h2 h3 f1 f2 f3; obtain ⟨h00, h1, h2, h3, f1, f2, f3⟩ := hr2.cells) |
    (go_at_call 22; refine (pfail_a _ s _ _ _ _ hr2).mono ?_; rintro e w3 ⟨rfl, hr3, hf3⟩))
  go_ret
  exact ⟨⟨_, 0, rfl, rfl, by omega, by omega⟩, ⟨_, hr3⟩, hi, Fr.trans (((Fr.refl (At b) w).drewN nn).no hf2) hf3⟩
/-- Behind the backslash. -/
theorem escape_in {s : ByteArray} {i : Nat} (h : nx s i = 92) : i + 1 ≤ s.size := by have := nx_nonneg (s := s) (i := i) (by omega); omega
set_option maxHeartbeats 1600000 in
theorem pone_neg (hs : s.size < 1099511627776) (Hr : Hid (Ps w b s i (-1) op)) (H92 : Hid (nx s i = 92)) (c2 : Int) (Hc2 : Hid (nx s (i + 1) = c2)) (hc : c2 < 0) :
    Calls Try.prog 46 #[.pointer (some ⟨b, 0, none⟩)] w (OutP ByteW w b s op (.bad (i + 1))) := by
  have hi1 := escape_in H92.out
  have hP := fun W => rplain_c (nx s i) W (by have := nx_le s i; omega)
  rw [show (decide (0 ≤ nx s i) && plainB (nx s i)) = false by rw [H92.out]; decide] at hP
  have hq : (nx s i != 92) = false := by rw [H92.out]; decide
  obtain ⟨h00, h1, h2, h3, f1, f2, f3⟩ := Hr.out.cells
  have hd : decide (c2 < 0) = true := decide_eq_true hc
  have e1 : (c2 == 120) = false := by simp; omega
  have e2 : (c2 == 110) = false := by simp; omega
  have e3 : (c2 == 116) = false := by simp; omega
  go_enter Try.func46, Try.ntmps46
  go_wp2_with (first | (go_at_call 28; refine (pnext_a _ s i _ _ Hr.out).mono ?_; rintro e wn ⟨rfl, nn, rfl⟩) | (go_at_call 54; refine (hP _).mono ?_; rintro e w2 ⟨rfl, hf2⟩; have hr2 := (Hr.out.drewN nn).fr hf2 id; clear h00 h1 h2 h3 f1 f2 f3; obtain ⟨h00, h1, h2, h3, f1, f2, f3⟩ := hr2.cells))
  refine (pnext_a _ s (i + 1) op _ (hr2.setAt (z := ((i + 1 : Nat) : Int)) (by omega))).mono ?_
  rintro e w3 ⟨rfl, n3, rfl⟩
  rw [Hc2.out]
  have hr3 := (hr2.setAt (y := (i : Int) + 1) (z := ((i + 1 : Nat) : Int)) (by omega)).drewN n3
  have hF3 := ((((Fr.refl (At b) w).drewN nn).no hf2).setB 1 (.int .i64 ((i : Int) + 1))).drewN n3
  clear h00 h1 h2 h3 f1 f2 f3
  obtain ⟨h00, h1, h2, h3, f1, f2, f3⟩ := hr3.cells
  go_wp2_with (go_at_call 22; refine (pfail_a _ s _ _ _ _ hr3).mono ?_; rintro e w4 ⟨rfl, hr4, hf4⟩)
  go_ret
  exact ⟨⟨_, 0, rfl, rfl, by omega, by omega⟩, ⟨_, hr4⟩, hi1, Fr.trans hF3 hf4⟩
set_option maxHeartbeats 1600000 in
theorem pone_n (hs : s.size < 1099511627776) (Hr : Hid (Ps w b s i (-1) op)) (H92 : Hid (nx s i = 92)) (c2 : Int) (Hc2 : Hid (nx s (i + 1) = c2)) (hc : c2 = 110) :
    Calls Try.prog 46 #[.pointer (some ⟨b, 0, none⟩)] w (OutP ByteW w b s op (.ok 10 (i + 1 + 1))) := by
  have hi1 := escape_in H92.out
  have hP := fun W => rplain_c (nx s i) W (by have := nx_le s i; omega)
  rw [show (decide (0 ≤ nx s i) && plainB (nx s i)) = false by rw [H92.out]; decide] at hP
  have hq : (nx s i != 92) = false := by rw [H92.out]; decide
  obtain ⟨h00, h1, h2, h3, f1, f2, f3⟩ := Hr.out.cells
  have hlt2 : i + 1 + 1 ≤ s.size := by have := nx_nonneg (s := s) (i := i + 1) (by rw [Hc2.out]; omega); omega
  have e1 : (c2 == 120) = false := by simp; omega
  have e2 : (c2 == 110) = true := by simp; omega
  have e3 : (c2 == 116) = false := by simp; omega
  clear hc
  go_enter Try.func46, Try.ntmps46
  go_wp2_with (first | (go_at_call 28; refine (pnext_a _ s i _ _ Hr.out).mono ?_; rintro e wn ⟨rfl, nn, rfl⟩) | (go_at_call 54; refine (hP _).mono ?_; rintro e w2 ⟨rfl, hf2⟩; have hr2 := (Hr.out.drewN nn).fr hf2 id; clear h00 h1 h2 h3 f1 f2 f3; obtain ⟨h00, h1, h2, h3, f1, f2, f3⟩ := hr2.cells))
  refine (pnext_a _ s (i + 1) op _ (hr2.setAt (z := ((i + 1 : Nat) : Int)) (by omega))).mono ?_
  rintro e w3 ⟨rfl, n3, rfl⟩
  rw [Hc2.out]
  have hr3 := (hr2.setAt (y := (i : Int) + 1) (z := ((i + 1 : Nat) : Int)) (by omega)).drewN n3
  have hF3 := ((((Fr.refl (At b) w).drewN nn).no hf2).setB 1 (.int .i64 ((i : Int) + 1))).drewN n3
  clear h00 h1 h2 h3 f1 f2 f3
  obtain ⟨h00, h1, h2, h3, f1, f2, f3⟩ := hr3.cells
  go_wp2_with fail
  go_ret
  exact ⟨⟨_, rfl, rfl, by omega, by omega⟩, (hr3.setAt (by omega)), hlt2, hF3.setB 1 _⟩
set_option maxHeartbeats 1600000 in
theorem pone_t (hs : s.size < 1099511627776) (Hr : Hid (Ps w b s i (-1) op)) (H92 : Hid (nx s i = 92)) (c2 : Int) (Hc2 : Hid (nx s (i + 1) = c2)) (hc : c2 = 116) :
    Calls Try.prog 46 #[.pointer (some ⟨b, 0, none⟩)] w (OutP ByteW w b s op (.ok 9 (i + 1 + 1))) := by
  have hi1 := escape_in H92.out
  have hP := fun W => rplain_c (nx s i) W (by have := nx_le s i; omega)
  rw [show (decide (0 ≤ nx s i) && plainB (nx s i)) = false by rw [H92.out]; decide] at hP
  have hq : (nx s i != 92) = false := by rw [H92.out]; decide
  obtain ⟨h00, h1, h2, h3, f1, f2, f3⟩ := Hr.out.cells
  have hlt2 : i + 1 + 1 ≤ s.size := by have := nx_nonneg (s := s) (i := i + 1) (by rw [Hc2.out]; omega); omega
  have e1 : (c2 == 120) = false := by simp; omega
  have e2 : (c2 == 110) = false := by simp; omega
  have e3 : (c2 == 116) = true := by simp; omega
  clear hc
  go_enter Try.func46, Try.ntmps46
  go_wp2_with (first | (go_at_call 28; refine (pnext_a _ s i _ _ Hr.out).mono ?_; rintro e wn ⟨rfl, nn, rfl⟩) | (go_at_call 54; refine (hP _).mono ?_; rintro e w2 ⟨rfl, hf2⟩; have hr2 := (Hr.out.drewN nn).fr hf2 id; clear h00 h1 h2 h3 f1 f2 f3; obtain ⟨h00, h1, h2, h3, f1, f2, f3⟩ := hr2.cells))
  refine (pnext_a _ s (i + 1) op _ (hr2.setAt (z := ((i + 1 : Nat) : Int)) (by omega))).mono ?_
  rintro e w3 ⟨rfl, n3, rfl⟩
  rw [Hc2.out]
  have hr3 := (hr2.setAt (y := (i : Int) + 1) (z := ((i + 1 : Nat) : Int)) (by omega)).drewN n3
  have hF3 := ((((Fr.refl (At b) w).drewN nn).no hf2).setB 1 (.int .i64 ((i : Int) + 1))).drewN n3
  clear h00 h1 h2 h3 f1 f2 f3
  obtain ⟨h00, h1, h2, h3, f1, f2, f3⟩ := hr3.cells
  go_wp2_with fail
  go_ret
  exact ⟨⟨_, rfl, rfl, by omega, by omega⟩, (hr3.setAt (by omega)), hlt2, hF3.setB 1 _⟩
set_option maxHeartbeats 1600000 in
theorem pone_spec (hs : s.size < 1099511627776) (Hr : Hid (Ps w b s i (-1) op)) (H92 : Hid (nx s i = 92)) (c2 : Int) (Hc2 : Hid (nx s (i + 1) = c2)) (hc0 : 0 ≤ c2) (hc1 : c2 ≠ 120) (hc2 : c2 ≠ 110) (hc3 : c2 ≠ 116) (hsp : 0 ≤ ixOf special c2) :
    Calls Try.prog 46 #[.pointer (some ⟨b, 0, none⟩)] w (OutP ByteW w b s op (.ok c2 (i + 1 + 1))) := by
  have hi1 := escape_in H92.out
  have hP := fun W => rplain_c (nx s i) W (by have := nx_le s i; omega)
  rw [show (decide (0 ≤ nx s i) && plainB (nx s i)) = false by rw [H92.out]; decide] at hP
  have hq : (nx s i != 92) = false := by rw [H92.out]; decide
  obtain ⟨h00, h1, h2, h3, f1, f2, f3⟩ := Hr.out.cells
  have hlt2 : i + 1 + 1 ≤ s.size := by have := nx_nonneg (s := s) (i := i + 1) (by rw [Hc2.out]; omega); omega
  have hc256 : c2 < 256 := by have := nx_le s (i + 1); rw [Hc2.out] at this; omega
  have e1 : (c2 == 120) = false := by simp; omega
  have e2 : (c2 == 110) = false := by simp; omega
  have e3 : (c2 == 116) = false := by simp; omega
  have hI := fun W => in_c specB c2 W (by decide)
  rw [spec_ix, decide_eq_true hsp] at hI
  have hd : decide (c2 < 0) = false := decide_eq_false (by omega)
  clear hc1 hc2 hc3 hsp
  go_enter Try.func46, Try.ntmps46
  go_wp2_with (first | (go_at_call 28; refine (pnext_a _ s i _ _ Hr.out).mono ?_; rintro e wn ⟨rfl, nn, rfl⟩) | (go_at_call 54; refine (hP _).mono ?_; rintro e w2 ⟨rfl, hf2⟩; have hr2 := (Hr.out.drewN nn).fr hf2 id; clear h00 h1 h2 h3 f1 f2 f3; obtain ⟨h00, h1, h2, h3, f1, f2, f3⟩ := hr2.cells))
  refine (pnext_a _ s (i + 1) op _ (hr2.setAt (z := ((i + 1 : Nat) : Int)) (by omega))).mono ?_
  rintro e w3 ⟨rfl, n3, rfl⟩
  rw [Hc2.out]
  have hr3 := (hr2.setAt (y := (i : Int) + 1) (z := ((i + 1 : Nat) : Int)) (by omega)).drewN n3
  have hF3 := ((((Fr.refl (At b) w).drewN nn).no hf2).setB 1 (.int .i64 ((i : Int) + 1))).drewN n3
  clear h00 h1 h2 h3 f1 f2 f3
  obtain ⟨h00, h1, h2, h3, f1, f2, f3⟩ := hr3.cells
  go_wp2_with (go_at_call 36; refine (hI _).mono ?_; rintro e w4 ⟨rfl, rfl⟩)
  go_ret
  exact ⟨⟨_, rfl, rfl, by omega, by omega⟩, (hr3.setAt (by omega)), hlt2, hF3.setB 1 _⟩
set_option maxHeartbeats 1600000 in
theorem pone_none (hs : s.size < 1099511627776) (Hr : Hid (Ps w b s i (-1) op)) (H92 : Hid (nx s i = 92)) (c2 : Int) (Hc2 : Hid (nx s (i + 1) = c2)) (hc0 : 0 ≤ c2) (hc1 : c2 ≠ 120) (hc2 : c2 ≠ 110) (hc3 : c2 ≠ 116) (hsp : ¬ 0 ≤ ixOf special c2) :
    Calls Try.prog 46 #[.pointer (some ⟨b, 0, none⟩)] w (OutP ByteW w b s op (.bad (i + 1))) := by
  have hi1 := escape_in H92.out
  have hP := fun W => rplain_c (nx s i) W (by have := nx_le s i; omega)
  rw [show (decide (0 ≤ nx s i) && plainB (nx s i)) = false by rw [H92.out]; decide] at hP
  have hq : (nx s i != 92) = false := by rw [H92.out]; decide
  obtain ⟨h00, h1, h2, h3, f1, f2, f3⟩ := Hr.out.cells
  have e1 : (c2 == 120) = false := by simp; omega
  have e2 : (c2 == 110) = false := by simp; omega
  have e3 : (c2 == 116) = false := by simp; omega
  have hI := fun W => in_c specB c2 W (by decide)
  rw [spec_ix, decide_eq_false hsp] at hI
  have hd : decide (c2 < 0) = false := decide_eq_false (by omega)
  clear hc1 hc2 hc3 hsp
  go_enter Try.func46, Try.ntmps46
  go_wp2_with (first | (go_at_call 28; refine (pnext_a _ s i _ _ Hr.out).mono ?_; rintro e wn ⟨rfl, nn, rfl⟩) | (go_at_call 54; refine (hP _).mono ?_; rintro e w2 ⟨rfl, hf2⟩; have hr2 := (Hr.out.drewN nn).fr hf2 id; clear h00 h1 h2 h3 f1 f2 f3; obtain ⟨h00, h1, h2, h3, f1, f2, f3⟩ := hr2.cells))
  refine (pnext_a _ s (i + 1) op _ (hr2.setAt (z := ((i + 1 : Nat) : Int)) (by omega))).mono ?_
  rintro e w3 ⟨rfl, n3, rfl⟩
  rw [Hc2.out]
  have hr3 := (hr2.setAt (y := (i : Int) + 1) (z := ((i + 1 : Nat) : Int)) (by omega)).drewN n3
  have hF3 := ((((Fr.refl (At b) w).drewN nn).no hf2).setB 1 (.int .i64 ((i : Int) + 1))).drewN n3
  clear h00 h1 h2 h3 f1 f2 f3
  obtain ⟨h00, h1, h2, h3, f1, f2, f3⟩ := hr3.cells
  go_wp2_with (first | (go_at_call 36; refine (hI _).mono ?_; rintro e w4 ⟨rfl, rfl⟩) | (go_at_call 22; refine (pfail_a _ s _ _ _ _ hr3).mono ?_; rintro e w5 ⟨rfl, hr4, hf4⟩))
  go_ret
  exact ⟨⟨_, 0, rfl, rfl, by omega, by omega⟩, ⟨_, hr4⟩, hi1, Fr.trans hF3 hf4⟩
set_option maxHeartbeats 1600000 in
theorem pone_x (hs : s.size < 1099511627776) (Hr : Hid (Ps w b s i (-1) op)) (H92 : Hid (nx s i = 92)) (c2 : Int) (Hc2 : Hid (nx s (i + 1) = c2)) (hc : c2 = 120) :
    Calls Try.prog 46 #[.pointer (some ⟨b, 0, none⟩)] w (OutP ByteW w b s op ((Rx.digit s (i + 1 + 1)).bind fun a j => (Rx.digit s j).bind fun b k => .ok (16 * a + b) k)) := by
  have hi1 := escape_in H92.out
  have hP := fun W => rplain_c (nx s i) W (by have := nx_le s i; omega)
  rw [show (decide (0 ≤ nx s i) && plainB (nx s i)) = false by rw [H92.out]; decide] at hP
  have hq : (nx s i != 92) = false := by rw [H92.out]; decide
  obtain ⟨h00, h1, h2, h3, f1, f2, f3⟩ := Hr.out.cells
  have hlt2 : i + 1 + 1 ≤ s.size := by have := nx_nonneg (s := s) (i := i + 1) (by rw [Hc2.out]; omega); omega
  have e1 : (c2 == 120) = true := by simp; omega
  have e2 : (c2 == 110) = false := by simp; omega
  have e3 : (c2 == 116) = false := by simp; omega
  clear hc
  have hD := fun (W : World) (h : Ps W b s (i + 1 + 1 : Nat) (-1) op) => pdigit_a b s (i + 1 + 1) op W hs h hlt2
  cases hd1 : Rx.digit s (i + 1 + 1) with
  | out => exact absurd hd1 (digit_ne _ _)
  | bad k =>
    show Calls Try.prog 46 _ w (OutP ByteW w b s op (.bad k))
    rw [hd1] at hD
    have hD := hid hD
    clear hd1
    go_enter Try.func46, Try.ntmps46
    go_wp2_with (first | (go_at_call 28; refine (pnext_a _ s i _ _ Hr.out).mono ?_; rintro e wn ⟨rfl, nn, rfl⟩) | (go_at_call 54; refine (hP _).mono ?_; rintro e w2 ⟨rfl, hf2⟩; have hr2 := (Hr.out.drewN nn).fr hf2 id; clear h00 h1 h2 h3 f1 f2 f3; obtain ⟨h00, h1, h2, h3, f1, f2, f3⟩ := hr2.cells))
    refine (pnext_a _ s (i + 1) op _ (hr2.setAt (z := ((i + 1 : Nat) : Int)) (by omega))).mono ?_
    rintro e w3 ⟨rfl, n3, rfl⟩
    rw [Hc2.out]
    have hr3 := (hr2.setAt (y := (i : Int) + 1) (z := ((i + 1 : Nat) : Int)) (by omega)).drewN n3
    have hF3 := ((((Fr.refl (At b) w).drewN nn).no hf2).setB 1 (.int .i64 ((i : Int) + 1))).drewN n3
    clear h00 h1 h2 h3 f1 f2 f3
    obtain ⟨h00, h1, h2, h3, f1, f2, f3⟩ := hr3.cells
    go_wp2_with fail
    refine (hD.out _ (hr3.setAt (by omega))).mono ?_
    rintro e w4 ⟨⟨v, a, rfl, rfl, ha0, ha1⟩, ⟨x4, hr4⟩, hk, hf4⟩
    clear h00 h1 h2 h3 f1 f2 f3
    go_wp2_with (go_at_call 55; refine (pdigit_d _ s _ _ _ _ hr4).mono ?_; rintro e w5 ⟨rfl, hr5, hf5⟩)
    go_ret
    exact ⟨⟨_, 16 * a, rfl, by first | rfl | simp, by omega, by omega⟩, ⟨_, hr5⟩, hk, Fr.trans (Fr.trans (hF3.setB 1 _) hf4) hf5⟩
  | ok a j =>
    have hja := digit_gt hd1
    have haa := digit_ok hd1
    rw [hd1] at hD
    have hD := hid hD
    clear hd1
    have hE := fun (W : World) (h : Ps W b s j (-1) op) => pdigit_a b s j op W hs h (by omega)
    show Calls Try.prog 46 _ w (OutP ByteW w b s op ((Rx.digit s j).bind fun b k => .ok (16 * a + b) k))
    cases hd2 : Rx.digit s j with
    | out => exact absurd hd2 (digit_ne _ _)
    | bad k =>
      show Calls Try.prog 46 _ w (OutP ByteW w b s op (.bad k))
      rw [hd2] at hE
      have hE := hid hE
      clear hd2
      go_enter Try.func46, Try.ntmps46
      go_wp2_with (first | (go_at_call 28; refine (pnext_a _ s i _ _ Hr.out).mono ?_; rintro e wn ⟨rfl, nn, rfl⟩) | (go_at_call 54; refine (hP _).mono ?_; rintro e w2 ⟨rfl, hf2⟩; have hr2 := (Hr.out.drewN nn).fr hf2 id; clear h00 h1 h2 h3 f1 f2 f3; obtain ⟨h00, h1, h2, h3, f1, f2, f3⟩ := hr2.cells))
      refine (pnext_a _ s (i + 1) op _ (hr2.setAt (z := ((i + 1 : Nat) : Int)) (by omega))).mono ?_
      rintro e w3 ⟨rfl, n3, rfl⟩
      rw [Hc2.out]
      have hr3 := (hr2.setAt (y := (i : Int) + 1) (z := ((i + 1 : Nat) : Int)) (by omega)).drewN n3
      have hF3 := ((((Fr.refl (At b) w).drewN nn).no hf2).setB 1 (.int .i64 ((i : Int) + 1))).drewN n3
      clear h00 h1 h2 h3 f1 f2 f3
      obtain ⟨h00, h1, h2, h3, f1, f2, f3⟩ := hr3.cells
      go_wp2_with fail
      refine (hD.out _ (hr3.setAt (by omega))).mono ?_
      rintro e w4 ⟨⟨v, rfl, rfl, ha0, ha1⟩, hr4, hk, hf4⟩
      clear h00 h1 h2 h3 f1 f2 f3
      go_wp2_with (go_at_call 55; refine (hE.out _ hr4).mono ?_; rintro e w5 ⟨⟨v, a2, rfl, rfl, hb0, hb1⟩, ⟨x5, hr5⟩, hk5, hf5⟩)
      go_ret
      exact ⟨⟨_, 16 * a + a2, rfl, by first | rfl | simp, by omega, by omega⟩, ⟨_, hr5⟩, hk5, Fr.trans (Fr.trans (hF3.setB 1 _) hf4) hf5⟩
    | ok a2 j2 =>
      show Calls Try.prog 46 _ w (OutP ByteW w b s op (.ok (16 * a + a2) j2))
      rw [hd2] at hE
      have hE := hid hE
      clear hd2
      go_enter Try.func46, Try.ntmps46
      go_wp2_with (first | (go_at_call 28; refine (pnext_a _ s i _ _ Hr.out).mono ?_; rintro e wn ⟨rfl, nn, rfl⟩) | (go_at_call 54; refine (hP _).mono ?_; rintro e w2 ⟨rfl, hf2⟩; have hr2 := (Hr.out.drewN nn).fr hf2 id; clear h00 h1 h2 h3 f1 f2 f3; obtain ⟨h00, h1, h2, h3, f1, f2, f3⟩ := hr2.cells))
      refine (pnext_a _ s (i + 1) op _ (hr2.setAt (z := ((i + 1 : Nat) : Int)) (by omega))).mono ?_
      rintro e w3 ⟨rfl, n3, rfl⟩
      rw [Hc2.out]
      have hr3 := (hr2.setAt (y := (i : Int) + 1) (z := ((i + 1 : Nat) : Int)) (by omega)).drewN n3
      have hF3 := ((((Fr.refl (At b) w).drewN nn).no hf2).setB 1 (.int .i64 ((i : Int) + 1))).drewN n3
      clear h00 h1 h2 h3 f1 f2 f3
      obtain ⟨h00, h1, h2, h3, f1, f2, f3⟩ := hr3.cells
      go_wp2_with fail
      refine (hD.out _ (hr3.setAt (by omega))).mono ?_
      rintro e w4 ⟨⟨v, rfl, rfl, ha0, ha1⟩, hr4, hk, hf4⟩
      clear h00 h1 h2 h3 f1 f2 f3
      go_wp2_with (go_at_call 55; refine (hE.out _ hr4).mono ?_; rintro e w5 ⟨⟨v, rfl, rfl, hb0, hb1⟩, hr5, hk5, hf5⟩)
      go_ret
      exact ⟨⟨_, rfl, by first | rfl | simp, by omega, by omega⟩, hr5, hk5, Fr.trans (Fr.trans (hF3.setB 1 _) hf4) hf5⟩
theorem pone_esc (hs : s.size < 1099511627776) (hr : Ps w b s i (-1) op) (h92 : nx s i = 92) :
    Calls Try.prog 46 #[.pointer (some ⟨b, 0, none⟩)] w (OutP ByteW w b s op (Rx.escape s (i + 1))) := by
  unfold Rx.escape
  split
  · exact pone_neg b s i op w hs hr h92 _ rfl (by assumption)
  split
  · exact pone_x b s i op w hs hr h92 _ rfl (by assumption)
  split
  · exact pone_n b s i op w hs hr h92 _ rfl (by assumption)
  split
  · exact pone_t b s i op w hs hr h92 _ rfl (by assumption)
  split
  · exact pone_spec b s i op w hs hr h92 _ rfl (by omega) (by assumption) (by assumption) (by assumption) (by assumption)
  · exact pone_none b s i op w hs hr h92 _ rfl (by omega) (by assumption) (by assumption) (by assumption) (by assumption)
theorem pone_a (hs : s.size < 1099511627776) (hr : Ps w b s i (-1) op) (hi : i ≤ s.size) :
    Calls Try.prog 46 #[.pointer (some ⟨b, 0, none⟩)] w (OutP ByteW w b s op (Rx.one s i)) := by
  unfold Rx.one
  split
  · exact pone_esc b s i op w hs hr (by assumption)
  split
  · rename_i h
    exact pone_plain b s i op w hs hr h.1 h.2
  · rename_i h92 h
    refine pone_bad b s i op w hs hr hi h92 ?_
    cases hp : plainB (nx s i)
    · simp
    · simp only [Bool.and_true, decide_eq_false_iff_not]
      intro h0
      exact h ⟨h0, hp⟩
end
end Go.Proofs.Ytcphepjfnnbonaa
