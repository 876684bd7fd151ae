/- The walk of sieveref07's parser: number. Condition: the text has fewer than 2^40 bytes, the place is within it. -/
import Derived.Test.YtcphepjfnnbonaaPf3
namespace Go.Proofs.Ytcphepjfnnbonaa
set_option linter.unusedVariables false
set_option linter.unusedSimpArgs false
open Go Go.RowKit

def NumW : World → Value → Int → Prop := fun _ v a => v = .int .i64 a ∧ 0 ≤ a ∧ a ≤ 99
theorem drewN_drewN' (w : World) (m n : Nat) : (w.drewN m).drewN n = w.drewN (m + n) := by simp [World.drewN_drewN]
section
variable (b : Nat) (s : ByteArray) (i op : Nat) (w : World)
set_option maxHeartbeats 1600000 in
theorem pnum_0 (Hs : Hid (s.size < 1099511627776)) (Hr : Hid (Ps w b s i (-1) op)) (Hi : Hid (i ≤ s.size)) (c0 : Int) (Hc0 : Hid (nx s i = c0)) (p q : Bool) (hp : decide (48 ≤ c0) = p) (hq : decide (c0 ≤ 57) = q) (hpq : (p && q) = false) :
    Calls Try.prog 37 #[.pointer (some ⟨b, 0, none⟩)] w (OutP NumW w b s op (.bad i)) := by
  obtain ⟨h00, h1, h2, h3, f1, f2, f3⟩ := Hr.out.cells
  have hN := fun (n : Nat) => pnext_a b s i op (w.drewN n) (Hr.out.drewN n)
  have hN0 := pnext_a b s i op w Hr.out
  rw [Hc0.out] at hN hN0
  have hii : ((i : Int) == (i : Int)) = true := by simp
  cases p <;> cases q <;> simp only [Bool.and_true, Bool.and_false, Bool.false_and, Bool.true_and, reduceCtorEq] at hpq
  all_goals
    go_enter Try.func37, Try.ntmps37
    go_wp2
    refine wp_loop_rounds 1 ?_
    rw [rounds_succ]
    go_wp2_with (first | (go_at_call 28; first | (refine hN0.mono ?_; rintro e wn ⟨rfl, nn, rfl⟩) | (refine (hN _).mono ?_; rintro e wn ⟨rfl, nn, rfl⟩; rw [drewN_drewN'])) |
      (go_at_call 22; refine (pfail_a _ s _ _ _ _ (by repeat (first | assumption | apply Ps.drewN | apply Ps.drew | apply Ps.alloc | (apply Ps.setAt (hx := by first | rfl | omega)) | (apply Ps.setBad (hx := by omega)) | (apply Ps.setOp (hx := by omega)) | (apply Ps.far (hp := by simp only []; omega))))).mono ?_; rintro e w3 ⟨rfl, hr3, hf3⟩))
    go_ret
    exact ⟨⟨_, 0, rfl, rfl, by omega, by omega⟩, ⟨_, hr3⟩, Hi.out, Fr.trans ((Fr.refl (At b) w).drewN _) hf3⟩
set_option maxHeartbeats 1600000 in
theorem pnum_1 (Hs : Hid (s.size < 1099511627776)) (Hr : Hid (Ps w b s i (-1) op)) (Hi : Hid (i + 1 ≤ s.size)) (c0 c1 : Int) (Hc0 : Hid (nx s i = c0)) (Hc1 : Hid (nx s (i + 1) = c1)) (hc : 48 ≤ c0 ∧ c0 ≤ 57)
    (p q : Bool) (hp : decide (48 ≤ c1) = p) (hq : decide (c1 ≤ 57) = q) (hpq : (p && q) = false) :
    Calls Try.prog 37 #[.pointer (some ⟨b, 0, none⟩)] w (OutP NumW w b s op (.ok (c0 - 48) (i + 1))) := by
  obtain ⟨h00, h1, h2, h3, f1, f2, f3⟩ := Hr.out.cells
  have hN := fun (n : Nat) => pnext_a b s i op (w.drewN n) (Hr.out.drewN n)
  have hN0 := pnext_a b s i op w Hr.out
  have hM := fun (W : World) (h : Ps W b s (i + 1 : Nat) (-1) op) => pnext_a b s (i + 1) op W h
  rw [Hc0.out] at hN hN0
  rw [Hc1.out] at hM
  obtain ⟨hc0, hc1⟩ := hc
  have hd0 : decide (48 ≤ c0) = true := decide_eq_true hc0
  have hd1 : decide (c0 ≤ 57) = true := decide_eq_true hc1
  have hii : ((i : Int) + 1 == (i : Int)) = false := by simp; omega
  have hr := Hr.out
  have hsz := Hs.out
  have hi1 := Hi.out
  have hsub : wrap64 ((i : Int) + 1 - i) = 1 := by unfold wrap64; omega
  cases p <;> cases q <;> simp only [Bool.and_true, Bool.and_false, Bool.false_and, Bool.true_and, reduceCtorEq] at hpq
  all_goals
    go_enter Try.func37, Try.ntmps37
    go_wp2
    refine wp_loop_rounds 2 ?_
    rw [rounds_succ]
    go_wp2_with (first | (go_at_call 28; first | (refine hN0.mono ?_; rintro e wn ⟨rfl, nn, rfl⟩) | (refine (hN _).mono ?_; rintro e wn ⟨rfl, nn, rfl⟩; rw [drewN_drewN'])))
    rw [rounds_succ]
    go_wp2_with (first | (go_at_call 28; refine (hM _ (by repeat (first | assumption | apply Ps.drewN | apply Ps.drew | apply Ps.alloc | (apply Ps.setAt (hx := by first | rfl | omega)) | (apply Ps.setBad (hx := by omega)) | (apply Ps.setOp (hx := by omega)) | (apply Ps.far (hp := by simp only []; omega))))).mono ?_; rintro e wn ⟨rfl, nn, rfl⟩))
    go_ret
    exact ⟨⟨_, rfl, rfl, by omega, by omega⟩, (by repeat (first | assumption | apply Ps.drewN | apply Ps.drew | apply Ps.alloc | (apply Ps.setAt (hx := by first | rfl | omega)) | (apply Ps.setBad (hx := by omega)) | (apply Ps.setOp (hx := by omega)) | (apply Ps.far (hp := by simp only []; omega)))), hi1, (by repeat (first | assumption | exact Fr.refl _ _ | apply Fr.drewN | apply Fr.drew | apply Fr.alloc | apply Fr.setB | (apply Fr.setNew (hp := by first | exact Nat.le_refl _ | (simp; done) | (simp; omega))) | (refine Fr.no ?_ (by assumption)) | (refine Fr.trans ?_ (by assumption))))⟩
set_option maxHeartbeats 1600000 in
theorem pnum_2 (Hs : Hid (s.size < 1099511627776)) (Hr : Hid (Ps w b s i (-1) op)) (Hi : Hid (i + 1 + 1 ≤ s.size)) (c0 c1 : Int) (Hc0 : Hid (nx s i = c0)) (Hc1 : Hid (nx s (i + 1) = c1)) (hc : 48 ≤ c0 ∧ c0 ≤ 57) (hd : 48 ≤ c1 ∧ c1 ≤ 57) :
    Calls Try.prog 37 #[.pointer (some ⟨b, 0, none⟩)] w (OutP NumW w b s op (if 10 * (c0 - 48) + (c1 - 48) ≤ 20 then .ok (10 * (c0 - 48) + (c1 - 48)) (i + 2) else .bad i)) := by
  obtain ⟨h00, h1, h2, h3, f1, f2, f3⟩ := Hr.out.cells
  have hN := fun (n : Nat) => pnext_a b s i op (w.drewN n) (Hr.out.drewN n)
  have hN0 := pnext_a b s i op w Hr.out
  have hM := fun (W : World) (h : Ps W b s (i + 1 : Nat) (-1) op) => pnext_a b s (i + 1) op W h
  rw [Hc0.out] at hN hN0
  rw [Hc1.out] at hM
  obtain ⟨hc0, hc1⟩ := hc
  obtain ⟨hc2, hc3⟩ := hd
  have hd0 : decide (48 ≤ c0) = true := decide_eq_true hc0
  have hd1 : decide (c0 ≤ 57) = true := decide_eq_true hc1
  have hd2 : decide (48 ≤ c1) = true := decide_eq_true hc2
  have hd3 : decide (c1 ≤ 57) = true := decide_eq_true hc3
  have hii : ((i : Int) + 1 + 1 == (i : Int)) = false := by simp; omega
  have hr := Hr.out
  have hsz := Hs.out
  have hi1 := Hi.out
  have hsub : wrap64 ((i : Int) + 1 - i) = 1 := by unfold wrap64; omega
  have hsub2 : wrap64 ((i : Int) + 1 + 1 - i) = 2 := by unfold wrap64; omega
  by_cases hv : 10 * (c0 - 48) + (c1 - 48) ≤ 20
  · rw [if_pos hv]
    have hg : decide (20 < 10 * (c0 - 48) + c1 - 48) = false := decide_eq_false (by omega)
    go_enter Try.func37, Try.ntmps37
    go_wp2
    refine wp_loop_rounds 3 ?_
    rw [rounds_succ]
    go_wp2_with (first | (go_at_call 28; first | (refine hN0.mono ?_; rintro e wn ⟨rfl, nn, rfl⟩) | (refine (hN _).mono ?_; rintro e wn ⟨rfl, nn, rfl⟩; rw [drewN_drewN'])))
    rw [rounds_succ]
    go_wp2_with (first | (go_at_call 28; refine (hM _ (by repeat (first | assumption | apply Ps.drewN | apply Ps.drew | apply Ps.alloc | (apply Ps.setAt (hx := by first | rfl | omega)) | (apply Ps.setBad (hx := by omega)) | (apply Ps.setOp (hx := by omega)) | (apply Ps.far (hp := by simp only []; omega))))).mono ?_; rintro e wn ⟨rfl, nn, rfl⟩))
    rw [rounds_succ]
    go_wp2_with fail
    go_ret
    exact ⟨⟨_, rfl, congrArg (Value.int .i64) (by omega), by omega, by omega⟩, (by repeat (first | assumption | apply Ps.drewN | apply Ps.drew | apply Ps.alloc | (apply Ps.setAt (hx := by first | rfl | omega)) | (apply Ps.setBad (hx := by omega)) | (apply Ps.setOp (hx := by omega)) | (apply Ps.far (hp := by simp only []; omega)))), hi1, (by repeat (first | assumption | exact Fr.refl _ _ | apply Fr.drewN | apply Fr.drew | apply Fr.alloc | apply Fr.setB | (apply Fr.setNew (hp := by first | exact Nat.le_refl _ | (simp; done) | (simp; omega))) | (refine Fr.no ?_ (by assumption)) | (refine Fr.trans ?_ (by assumption))))⟩
  · rw [if_neg hv]
    have hg : decide (20 < 10 * (c0 - 48) + c1 - 48) = true := decide_eq_true (by omega)
    go_enter Try.func37, Try.ntmps37
    go_wp2
    refine wp_loop_rounds 3 ?_
    rw [rounds_succ]
    go_wp2_with (first | (go_at_call 28; first | (refine hN0.mono ?_; rintro e wn ⟨rfl, nn, rfl⟩) | (refine (hN _).mono ?_; rintro e wn ⟨rfl, nn, rfl⟩; rw [drewN_drewN'])))
    rw [rounds_succ]
    go_wp2_with (first | (go_at_call 28; refine (hM _ (by repeat (first | assumption | apply Ps.drewN | apply Ps.drew | apply Ps.alloc | (apply Ps.setAt (hx := by first | rfl | omega)) | (apply Ps.setBad (hx := by omega)) | (apply Ps.setOp (hx := by omega)) | (apply Ps.far (hp := by simp only []; omega))))).mono ?_; rintro e wn ⟨rfl, nn, rfl⟩))
    rw [rounds_succ]
    go_wp2_with (go_at_call 22; refine (pfail_a _ s _ _ _ _ (by repeat (first | assumption | apply Ps.drewN | apply Ps.drew | apply Ps.alloc | (apply Ps.setAt (hx := by first | rfl | omega)) | (apply Ps.setBad (hx := by omega)) | (apply Ps.setOp (hx := by omega)) | (apply Ps.far (hp := by simp only []; omega))))).mono ?_; rintro e w3 ⟨rfl, hr3, hf3⟩)
    go_ret
    exact ⟨⟨_, 10 * (c0 - 48) + (c1 - 48), rfl, congrArg (Value.int .i64) (by omega), by omega, by omega⟩, ⟨_, hr3⟩, by omega, Fr.trans (by repeat (first | assumption | exact Fr.refl _ _ | apply Fr.drewN | apply Fr.drew | apply Fr.alloc | apply Fr.setB | (apply Fr.setNew (hp := by first | exact Nat.le_refl _ | (simp; done) | (simp; omega))) | (refine Fr.no ?_ (by assumption)) | (refine Fr.trans ?_ (by assumption)))) hf3⟩
theorem pnumber_a (hs : s.size < 1099511627776) (hr : Ps w b s i (-1) op) (hi : i ≤ s.size) :
    Calls Try.prog 37 #[.pointer (some ⟨b, 0, none⟩)] w (OutP NumW w b s op (Rx.number s i)) := by
  unfold Rx.number
  split
  · rename_i h0
    have h0' : 48 ≤ nx s i ∧ nx s i ≤ 57 := by simpa [Rx.isDig] using h0
    have hlt := nx_nonneg (s := s) (i := i) (by omega)
    split
    · rename_i h1
      have h1' : 48 ≤ nx s (i + 1) ∧ nx s (i + 1) ≤ 57 := by simpa [Rx.isDig] using h1
      have hlt1 := nx_nonneg (s := s) (i := i + 1) (by omega)
      exact pnum_2 b s i op w hs hr (by show i + 1 + 1 ≤ s.size; omega) _ _ rfl rfl h0' h1'
    · rename_i h1
      refine pnum_1 b s i op w hs hr (by show i + 1 ≤ s.size; omega) _ _ rfl rfl h0' _ _ rfl rfl ?_
      simpa [Rx.isDig] using h1
  · rename_i h0
    refine pnum_0 b s i op w hs hr hi _ rfl _ _ rfl rfl ?_
    simpa [Rx.isDig] using h0
end
end Go.Proofs.Ytcphepjfnnbonaa
