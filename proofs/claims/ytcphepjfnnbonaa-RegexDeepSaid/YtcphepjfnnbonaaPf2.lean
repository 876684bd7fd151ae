/- The walks of sieveref07's parser: must, digit. Condition: the text has fewer than 2^40 bytes, the place is within it. -/
import Derived.Test.YtcphepjfnnbonaaPf1
namespace Go.Proofs.Ytcphepjfnnbonaa
set_option linter.unusedVariables false
set_option linter.unusedSimpArgs false
open Go Go.RowKit

def UnitW : World → Value → Unit → Prop := fun _ v _ => v = .tuple #[]
def DigW : World → Value → Int → Prop := fun _ v a => v = .int .i64 a ∧ 0 ≤ a ∧ a < 16
def ByteW : World → Value → Int → Prop := fun _ v a => v = .int .i64 a ∧ 0 ≤ a ∧ a < 256
section
variable (b : Nat) (s : ByteArray) (i op : Nat) (w : World)
set_option maxHeartbeats 800000 in
theorem pmust_a (c : Int) (hs : s.size < 1099511627776) (hr : Ps w b s i (-1) op) (hc : 0 ≤ c) (hi : i ≤ s.size) :
    Calls Try.prog 38 #[.pointer (some ⟨b, 0, none⟩), .int .i64 c] w (OutP UnitW w b s op (Rx.must s c i)) := by
  unfold Rx.must
  by_cases hn : nx s i = c
  · have hlt : i < s.size := nx_nonneg (by omega)
    rw [if_pos hn]
    have hq : (nx s i != c) = false := by simp [hn]
    clear hn
    obtain ⟨h0, h1, h2, h3, f1, f2, f3⟩ := hr.cells
    go_enter Try.func38, Try.ntmps38
    go_wp2_with (go_at_call 28; refine (pnext_a _ s _ _ _ (by repeat (first | assumption | apply Ps.drewN | apply Ps.drew | apply Ps.alloc | (apply Ps.setAt (hx := by first | rfl | omega)) | (apply Ps.setBad (hx := by omega)) | (apply Ps.setOp (hx := by omega)) | (apply Ps.far (hp := by simp only []; omega))))).mono ?_; rintro e wn ⟨rfl, nn, rfl⟩)
    go_end0
    exact ⟨⟨_, rfl, rfl⟩, (by repeat (first | assumption | apply Ps.drewN | apply Ps.drew | apply Ps.alloc | (apply Ps.setAt (hx := by first | rfl | omega)) | (apply Ps.setBad (hx := by omega)) | (apply Ps.setOp (hx := by omega)) | (apply Ps.far (hp := by simp only []; omega)))), by omega, (by repeat (first | assumption | exact Fr.refl _ _ | apply Fr.drewN | apply Fr.drew | apply Fr.alloc | apply Fr.setB | (apply Fr.setNew (hp := by first | exact Nat.le_refl _ | (simp; done) | (simp; omega))) | (refine Fr.no ?_ (by assumption)) | (refine Fr.trans ?_ (by assumption))))⟩
  · rw [if_neg hn]
    have hq : (nx s i != c) = true := by simp [hn]
    clear hn
    obtain ⟨h0, h1, h2, h3, f1, f2, f3⟩ := hr.cells
    go_enter Try.func38, Try.ntmps38
    go_wp2_with (first | (go_at_call 28; refine (pnext_a _ s _ _ _ (by repeat (first | assumption | apply Ps.drewN | apply Ps.drew | apply Ps.alloc | (apply Ps.setAt (hx := by first | rfl | omega)) | (apply Ps.setBad (hx := by omega)) | (apply Ps.setOp (hx := by omega)) | (apply Ps.far (hp := by simp only []; omega))))).mono ?_; rintro e wn ⟨rfl, nn, rfl⟩) | (go_at_call 22; refine (pfail_a _ s _ _ _ _ (by repeat (first | assumption | apply Ps.drewN | apply Ps.drew | apply Ps.alloc | (apply Ps.setAt (hx := by first | rfl | omega)) | (apply Ps.setBad (hx := by omega)) | (apply Ps.setOp (hx := by omega)) | (apply Ps.far (hp := by simp only []; omega))))).mono ?_; rintro e w2 ⟨rfl, hr2, hf2⟩; clear h0 h1 h2 h3 f1 f2 f3; obtain ⟨h0, h1, h2, h3, f1, f2, f3⟩ := hr2.cells))
    go_end0
    exact ⟨⟨_, (), rfl, rfl⟩, ⟨_, (by repeat (first | assumption | apply Ps.drewN | apply Ps.drew | apply Ps.alloc | (apply Ps.setAt (hx := by first | rfl | omega)) | (apply Ps.setBad (hx := by omega)) | (apply Ps.setOp (hx := by omega)) | (apply Ps.far (hp := by simp only []; omega))))⟩, hi, (Fr.trans ((Fr.refl (At b) w).drewN nn) hf2).setB 1 _⟩
set_option maxHeartbeats 800000 in
theorem pmust_d (c : Int) (x : Int) (k : Nat) (hr : Ps w b s x k op) (hc : 0 ≤ c) :
    Calls Try.prog 38 #[.pointer (some ⟨b, 0, none⟩), .int .i64 c] w fun e w' => e = .returned (.tuple #[]) ∧ (∃ x : Int, Ps w' b s x k op) ∧ Fr (At b) w w' := by
  have hq : ((-1 : Int) != c) = true := by simp; omega
  have hk : (0 : Int) ≤ (k : Int) := by omega
  obtain ⟨h0, h1, h2, h3, f1, f2, f3⟩ := hr.cells
  go_enter Try.func38, Try.ntmps38
  go_wp2_with (first | (go_at_call 28; refine (pnext_d _ s _ _ _ _ (by repeat (first | assumption | apply Ps.drewN | apply Ps.drew | apply Ps.alloc | (apply Ps.setAt (hx := by first | rfl | omega)) | (apply Ps.setBad (hx := by omega)) | (apply Ps.setOp (hx := by omega)) | (apply Ps.far (hp := by simp only []; omega))))).mono ?_; rintro e wn ⟨rfl, nn, rfl⟩) | (go_at_call 22; refine (pfail_d _ s _ _ _ _ _ (by repeat (first | assumption | apply Ps.drewN | apply Ps.drew | apply Ps.alloc | (apply Ps.setAt (hx := by first | rfl | omega)) | (apply Ps.setBad (hx := by omega)) | (apply Ps.setOp (hx := by omega)) | (apply Ps.far (hp := by simp only []; omega))))).mono ?_; rintro e w2 ⟨rfl, rfl⟩))
  go_end0
  exact ⟨rfl, ⟨_, (by repeat (first | assumption | apply Ps.drewN | apply Ps.drew | apply Ps.alloc | (apply Ps.setAt (hx := by first | rfl | omega)) | (apply Ps.setBad (hx := by omega)) | (apply Ps.setOp (hx := by omega)) | (apply Ps.far (hp := by simp only []; omega))))⟩, (by repeat (first | assumption | exact Fr.refl _ _ | apply Fr.drewN | apply Fr.drew | apply Fr.alloc | apply Fr.setB | (apply Fr.setNew (hp := by first | exact Nat.le_refl _ | (simp; done) | (simp; omega))) | (refine Fr.no ?_ (by assumption)) | (refine Fr.trans ?_ (by assumption))))⟩
set_option maxHeartbeats 800000 in
theorem pdigit_a (hs : s.size < 1099511627776) (hr : Ps w b s i (-1) op) (hi : i ≤ s.size) :
    Calls Try.prog 55 #[.pointer (some ⟨b, 0, none⟩)] w (OutP DigW w b s op (Rx.digit s i)) := by
  unfold Rx.digit
  have hH := fun W => hex_c (nx s i) W
  have hl := ixOf_lt hexes (nx s i)
  have hl16 : hexes.length = 16 := rfl
  by_cases hn : 0 ≤ ixOf hexes (nx s i)
  · have hx0 : 0 ≤ nx s i := by
      rcases Int.lt_or_le (nx s i) 0 with h | h
      · rw [ixOf_neg h] at hn; omega
      · exact h
    have hlt : i < s.size := nx_nonneg hx0
    rw [if_pos hn]
    have hd : decide (ixOf hexes (nx s i) < 0) = false := decide_eq_false (by omega)
    generalize ixOf hexes (nx s i) = d at *
    obtain ⟨h0, h1, h2, h3, f1, f2, f3⟩ := hr.cells
    go_enter Try.func55, Try.ntmps55
    go_wp2_with (first | (go_at_call 28; refine (pnext_a _ s _ _ _ (by repeat (first | assumption | apply Ps.drewN | apply Ps.drew | apply Ps.alloc | (apply Ps.setAt (hx := by first | rfl | omega)) | (apply Ps.setBad (hx := by omega)) | (apply Ps.setOp (hx := by omega)) | (apply Ps.far (hp := by simp only []; omega))))).mono ?_; rintro e wn ⟨rfl, nn, rfl⟩) | (go_at_call 60; refine (hH _).mono ?_; rintro e w2 ⟨rfl, rfl⟩))
    go_ret
    exact ⟨⟨_, rfl, rfl, hn, by omega⟩, (by repeat (first | assumption | apply Ps.drewN | apply Ps.drew | apply Ps.alloc | (apply Ps.setAt (hx := by first | rfl | omega)) | (apply Ps.setBad (hx := by omega)) | (apply Ps.setOp (hx := by omega)) | (apply Ps.far (hp := by simp only []; omega)))), by omega, (by repeat (first | assumption | exact Fr.refl _ _ | apply Fr.drewN | apply Fr.drew | apply Fr.alloc | apply Fr.setB | (apply Fr.setNew (hp := by first | exact Nat.le_refl _ | (simp; done) | (simp; omega))) | (refine Fr.no ?_ (by assumption)) | (refine Fr.trans ?_ (by assumption))))⟩
  · rw [if_neg hn]
    have hd : decide (ixOf hexes (nx s i) < 0) = true := decide_eq_true (by omega)
    generalize ixOf hexes (nx s i) = d at *
    obtain ⟨h0, h1, h2, h3, f1, f2, f3⟩ := hr.cells
    go_enter Try.func55, Try.ntmps55
    go_wp2_with (first | (go_at_call 28; refine (pnext_a _ s _ _ _ (by repeat (first | assumption | apply Ps.drewN | apply Ps.drew | apply Ps.alloc | (apply Ps.setAt (hx := by first | rfl | omega)) | (apply Ps.setBad (hx := by omega)) | (apply Ps.setOp (hx := by omega)) | (apply Ps.far (hp := by simp only []; omega))))).mono ?_; rintro e wn ⟨rfl, nn, rfl⟩) | (go_at_call 60; refine (hH _).mono ?_; rintro e w2 ⟨rfl, rfl⟩) | (go_at_call 22; refine (pfail_a _ s _ _ _ _ (by repeat (first | assumption | apply Ps.drewN | apply Ps.drew | apply Ps.alloc | (apply Ps.setAt (hx := by first | rfl | omega)) | (apply Ps.setBad (hx := by omega)) | (apply Ps.setOp (hx := by omega)) | (apply Ps.far (hp := by simp only []; omega))))).mono ?_; rintro e w2 ⟨rfl, hr2, hf2⟩))
    go_ret
    exact ⟨⟨_, 0, rfl, rfl, by omega, by omega⟩, ⟨_, hr2⟩, hi, Fr.trans ((Fr.refl (At b) w).drewN nn) hf2⟩
set_option maxHeartbeats 800000 in
theorem pdigit_d (x : Int) (k : Nat) (hr : Ps w b s x k op) :
    Calls Try.prog 55 #[.pointer (some ⟨b, 0, none⟩)] w fun e w' => e = .returned (.int .i64 0) ∧ Ps w' b s x k op ∧ Fr (At b) w w' := by
  have hH := fun W => hex_c (-1) W
  rw [ixOf_neg (by omega)] at hH
  have hk : (0 : Int) ≤ (k : Int) := by omega
  obtain ⟨h0, h1, h2, h3, f1, f2, f3⟩ := hr.cells
  go_enter Try.func55, Try.ntmps55
  go_wp2_with (first | (go_at_call 28; refine (pnext_d _ s _ _ _ _ (by repeat (first | assumption | apply Ps.drewN | apply Ps.drew | apply Ps.alloc | (apply Ps.setAt (hx := by first | rfl | omega)) | (apply Ps.setBad (hx := by omega)) | (apply Ps.setOp (hx := by omega)) | (apply Ps.far (hp := by simp only []; omega))))).mono ?_; rintro e wn ⟨rfl, nn, rfl⟩) | (go_at_call 60; refine (hH _).mono ?_; rintro e w2 ⟨rfl, rfl⟩) | (go_at_call 22; refine (pfail_d _ s _ _ _ _ _ (by repeat (first | assumption | apply Ps.drewN | apply Ps.drew | apply Ps.alloc | (apply Ps.setAt (hx := by first | rfl | omega)) | (apply Ps.setBad (hx := by omega)) | (apply Ps.setOp (hx := by omega)) | (apply Ps.far (hp := by simp only []; omega))))).mono ?_; rintro e w2 ⟨rfl, rfl⟩))
  go_ret
  exact ⟨rfl, (by repeat (first | assumption | apply Ps.drewN | apply Ps.drew | apply Ps.alloc | (apply Ps.setAt (hx := by first | rfl | omega)) | (apply Ps.setBad (hx := by omega)) | (apply Ps.setOp (hx := by omega)) | (apply Ps.far (hp := by simp only []; omega)))), (by repeat (first | assumption | exact Fr.refl _ _ | apply Fr.drewN | apply Fr.drew | apply Fr.alloc | apply Fr.setB | (apply Fr.setNew (hp := by first | exact Nat.le_refl _ | (simp; done) | (simp; omega))) | (refine Fr.no ?_ (by assumption)) | (refine Fr.trans ?_ (by assumption))))⟩
end
end Go.Proofs.Ytcphepjfnnbonaa
