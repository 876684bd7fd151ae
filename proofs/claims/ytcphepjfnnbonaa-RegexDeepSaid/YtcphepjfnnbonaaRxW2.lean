/- The walks of the expression reader: must, digit, escape. Condition: the text has fewer than 2^40 bytes, the place is within it. -/
import Derived.Test.YtcphepjfnnbonaaRxW1
namespace Go.Proofs.Ytcphepjfnnbonaa
set_option linter.unusedVariables false
set_option linter.unusedSimpArgs false
open Go Go.RowKit

theorem ixOf_ge (l : List Nat) (c : Int) : -1 ≤ ixOf l c := by unfold ixOf; split <;> omega
theorem ixOf_lt (l : List Nat) (c : Int) : ixOf l c < l.length ∨ ixOf l c = -1 := by
  unfold ixOf; split
  · rename_i i h
    obtain ⟨h1, _⟩ := List.findIdx?_eq_some_iff_getElem.1 h
    left; omega
  · right; rfl
theorem ixOf_neg {l : List Nat} {c : Int} (h : c < 0) : ixOf l c = -1 := by
  unfold ixOf
  have : l.findIdx? (fun (x : Nat) => (x : Int) == c) = none := by
    rw [List.findIdx?_eq_none_iff]
    intro x _
    simp; omega
  rw [this]
theorem ixBytes (l : List UInt8) (m : List Nat) (h : (List.range 256).all (fun n => Lib.indexByte l n.toUInt8 == ixOf m n) = true) {c : Int} (h0 : 0 ≤ c) (h1 : c < 256) :
    Lib.indexByte l c.toNat.toUInt8 = ixOf m c := by
  obtain ⟨n, rfl⟩ := Int.eq_ofNat_of_zero_le h0
  have := List.all_eq_true.1 h n (by simp; omega)
  simpa using this

theorem digit_ne (s : ByteArray) (i : Nat) : Rx.digit s i ≠ .out := by unfold Rx.digit; split <;> simp
theorem digit_ok {s : ByteArray} {i j : Nat} {a : Int} (h : Rx.digit s i = .ok a j) : 0 ≤ a ∧ a < 16 := by
  unfold Rx.digit at h
  split at h
  · injection h with h1 h2
    subst h1
    have h3 := ixOf_lt hexes (nx s i)
    have h4 : hexes.length = 16 := rfl
    omega
  · cases h
section
variable (b : Nat) (s : ByteArray) (i op : Nat) (w : World)
theorem must_c (c : Int) (hs : s.size < 1099511627776) (hr : Rd w b s i op) (hc : 0 ≤ c ∧ c < 256) :
    Calls Try.prog 39 #[.pointer (some ⟨b, 0, none⟩), .int .u8 c] w (Out UnitV w b s op (Rx.must s c i)) := by
  unfold Rx.must
  by_cases hn : nx s i = c
  · rw [if_pos hn]
    go_enter Try.func39, Try.ntmps39
    go_wp2_with (first | (go_at_call 24; refine (skip_t _ s i op _ c hs hr hc hn).mono ?_; rintro e w1 ⟨rfl, hr1, hlt, hf1⟩; obtain ⟨h0, h1, h2, f1, f2⟩ := hr1.cells; clear hr) | (go_at_call 18; refine (need_t _ _ _).mono ?_; rintro e w2 ⟨rfl, rfl⟩))
    go_end0
    exact ⟨⟨_, rfl, rfl⟩, hr1, by omega, hf1⟩
  · rw [if_neg hn]
    go_enter Try.func39, Try.ntmps39
    go_wp2_with (first | (go_at_call 24; refine (skip_f _ s i op _ c hr hc hn).mono ?_; rintro e w1 ⟨rfl, hr1, hf1⟩; obtain ⟨h0, h1, h2, f1, f2⟩ := hr1.cells; clear hr) | (go_at_call 18; refine (need_f _ _ i).mono ?_; rintro e w2 ⟨rfl, rfl⟩))
    exact ⟨rfl, rfl, (Fr.refl (At b) w).no hf1⟩

theorem digit_c (hs : s.size < 1099511627776) (hr : Rd w b s i op) :
    Calls Try.prog 56 #[.pointer (some ⟨b, 0, none⟩)] w (Out IntV w b s op (Rx.digit s i)) := by
  unfold Rx.digit
  have hx := fun (h : 0 ≤ nx s i) => ixBytes [48, 49, 50, 51, 52, 53, 54, 55, 56, 57, 97, 98, 99, 100, 101, 102] hexes (by decide +kernel) h (by have := nx_le s i; omega)
  obtain ⟨h0, h1, h2, f1, f2⟩ := hr.cells
  by_cases hp : 0 ≤ nx s i
  · have Hx := hid (hx hp)
    clear hx
    have hl := nx_le s i
    have hlt := nx_nonneg hp
    by_cases hn : 0 ≤ ixOf hexes (nx s i)
    · rw [if_pos hn]
      go_enter Try.func56, Try.ntmps56
      go_wp2_with (first | (go_at_call 31; refine (next_c _ s i op _ hr).mono ?_; rintro e w1 ⟨rfl, n, rfl⟩) |
        (go_at_call 57; refine (Try.strings_IndexByte _ _ _).mono ?_; rintro e w2 ⟨rfl, rfl⟩; rw [Hx.out]) | (go_at_call 18; refine (need_t _ _ _).mono ?_; rintro e w3 ⟨rfl, rfl⟩))
      go_ret
      exact ⟨⟨_, rfl, rfl⟩, (by repeat (first | assumption | apply Rd.drewN | apply Rd.drew | apply Rd.alloc | (apply Rd.setAt (hx := by omega)) | (apply Rd.setOp (hx := by omega)) | (apply Rd.far (hp := by simp only []; omega)))), by omega, (by repeat (first | assumption | exact Fr.refl _ _ | apply Fr.drewN | apply Fr.drew | apply Fr.alloc | apply Fr.setB | (apply Fr.setNew (hp := by first | exact Nat.le_refl _ | (simp; done) | (simp; omega))) | (refine Fr.no ?_ (by assumption)) | (refine Fr.trans ?_ (by assumption))))⟩
    · rw [if_neg hn]
      have hd := decide_eq_false hn
      clear hn
      go_enter Try.func56, Try.ntmps56
      go_wp2_with (first | (go_at_call 31; refine (next_c _ s i op _ hr).mono ?_; rintro e w1 ⟨rfl, n, rfl⟩) |
        (go_at_call 57; refine (Try.strings_IndexByte _ _ _).mono ?_; rintro e w2 ⟨rfl, rfl⟩; rw [Hx.out]) | (go_at_call 18; refine (need_f _ _ i).mono ?_; rintro e w3 ⟨rfl, rfl⟩))
      exact ⟨rfl, rfl, (by repeat (first | assumption | exact Fr.refl _ _ | apply Fr.drewN | apply Fr.drew | apply Fr.alloc | apply Fr.setB | (apply Fr.setNew (hp := by first | exact Nat.le_refl _ | (simp; done) | (simp; omega))) | (refine Fr.no ?_ (by assumption)) | (refine Fr.trans ?_ (by assumption))))⟩
  · rw [if_neg (by rw [ixOf_neg (by omega)]; omega)]
    clear hx
    go_enter Try.func56, Try.ntmps56
    go_wp2_with (first | (go_at_call 31; refine (next_c _ s i op _ hr).mono ?_; rintro e w1 ⟨rfl, n, rfl⟩) | (go_at_call 18; refine (need_f _ _ i).mono ?_; rintro e w3 ⟨rfl, rfl⟩))
    exact ⟨rfl, rfl, (by repeat (first | assumption | exact Fr.refl _ _ | apply Fr.drewN | apply Fr.drew | apply Fr.alloc | apply Fr.setB | (apply Fr.setNew (hp := by first | exact Nat.le_refl _ | (simp; done) | (simp; omega))) | (refine Fr.no ?_ (by assumption)) | (refine Fr.trans ?_ (by assumption))))⟩
end
end Go.Proofs.Ytcphepjfnnbonaa
