/- The walks of the expression reader's small functions: what each comes to is what the plain words of Rx say. Condition: the text has fewer than 2^40 bytes. The walks of the expression reader: must, digit, escape. Condition: the text has fewer than 2^40 bytes, the place is within it. -/
import Derived.Test.YtldmdlkjpdfonaaBase
import Derived.Test.YtldmdlkjpdfonaaRx
import Derived.Test.YtldmdlkjpdfonaaShelf
namespace Go.Proofs.Ytldmdlkjpdfonaa
set_option linter.unusedVariables false
set_option linter.unusedSimpArgs false
section
open Go Go.RowKit

/-- The reader's block. -/
def Rd (w : World) (b : Nat) (s : ByteArray) (i op : Nat) : Prop := Blk w b 93 #[.string s, .int .i64 i, .int .i64 op]
section
variable {w w' : World} {b : Nat} {s : ByteArray} {i op : Nat}
theorem Rd.cells (h : Rd w b s i op) : w.cell? ⟨b, 0, none⟩ = some (.string s) ∧ w.cell? ⟨b, 1, none⟩ = some (.int .i64 i) ∧ w.cell? ⟨b, 2, none⟩ = some (.int .i64 op) ∧
    w.frozen? ⟨b, 1, none⟩ = false ∧ w.frozen? ⟨b, 2, none⟩ = false :=
  ⟨h.cell 0, h.cell 1, h.cell 2, h.frozen 1, h.frozen 2⟩
theorem Rd.drewN (h : Rd w b s i op) (n : Nat) : Rd (w.drewN n) b s i op := h
theorem Rd.drew (h : Rd w b s i op) : Rd w.drew b s i op := h
theorem Rd.alloc (h : Rd w b s i op) (o : Obj) : Rd (w.alloc o) b s i op := Blk.alloc h o
theorem Rd.far (h : Rd w b s i op) {p : Addr} (hp : b ≠ p.block) (u : Value) : Rd (w.setCell p u) b s i op := Blk.far h hp u
theorem Rd.setAt (h : Rd w b s i op) {x : Int} {j : Nat} (hx : x = j) : Rd (w.setCell ⟨b, 1, none⟩ (.int .i64 x)) b s j op := by subst hx; exact Blk.set_ h 1 _
theorem Rd.setOp (h : Rd w b s i op) {x : Int} {j : Nat} (hx : x = j) : Rd (w.setCell ⟨b, 2, none⟩ (.int .i64 x)) b s i j := by subst hx; exact Blk.set_ h 2 _
theorem Rd.lt (h : Rd w b s i op) : b < w.heap.size := Blk.lt h
theorem Rd.fr {M : Nat → Prop} (h : Rd w b s i op) (hf : Fr M w w') (hn : ¬ M b) : Rd w' b s i op := hf.blk h hn
end
/-- The reader gives up. -/
abbrev Pan (k : Nat) : Ending := .panicked [{ v := .iface 90 (.int .i64 k), recovered := false }]
/-- What a reader's function comes to: a value that stands for it, and the place; or it gives up. -/
def Out {α : Type} (F : World → Value → α → Prop) (w : World) (b : Nat) (s : ByteArray) (op : Nat) : R α → Ending → World → Prop
  | .ok a j, e, w' => (∃ v, e = .returned v ∧ F w' v a) ∧ Rd w' b s j op ∧ j ≤ s.size ∧ Fr (At b) w w'
  | .bad k, e, w' => e = Pan k ∧ Fr (At b) w w'
  | .out, _, _ => True
def IntV : World → Value → Int → Prop := fun _ v a => v = .int .i64 a
def ByteV : World → Value → Int → Prop := fun _ v a => v = .int .u8 a ∧ 0 ≤ a ∧ a < 256
def UnitV : World → Value → Unit → Prop := fun _ v _ => v = .tuple #[]

section
variable (b : Nat) (s : ByteArray) (i op : Nat) (w : World)
set_option maxRecDepth 100000 in
set_option maxHeartbeats 400000 in
theorem next_c (hr : Rd w b s i op) :
    Calls Try.prog 70 #[.pointer (some ⟨b, 0, none⟩)] w fun e w' => e = .returned (.int .i64 (nx s i)) ∧ ∃ n, w' = w.drewN n := by
  obtain ⟨h0, h1, h2, f1, f2⟩ := hr.cells
  clear hr
  by_cases hi : i < s.size
  · have hn : nx s i = _ := nx_lt hi
    have hb := s[i].toNat_lt
    have Hn := hid hn
    clear hn
    go_enter Try.func70, Try.ntmps70
    go_wp2
    go_quiet (fail)
    go_wp2
    go_quiet (fail)
    go_wp2
    go_ret
    exact ⟨by rw [Hn.out]; rfl, by first | exact ⟨_, rfl⟩ | exact ⟨_, World.drewN_drewN _ _ _⟩ | (rw [World.drewN_drewN]; exact ⟨_, rfl⟩)⟩
  · have hn : nx s i = _ := nx_out (by omega)
    have Hn := hid hn
    clear hn
    go_enter Try.func70, Try.ntmps70
    go_wp2
    go_quiet (fail)
    go_wp2
    go_ret
    exact ⟨by rw [Hn.out]; rfl, by first | exact ⟨_, rfl⟩ | exact ⟨_, World.drewN_drewN _ _ _⟩ | (rw [World.drewN_drewN]; exact ⟨_, rfl⟩)⟩
set_option maxRecDepth 100000 in
set_option maxHeartbeats 400000 in
theorem skip_t (c : Int) (hs : s.size < 1099511627776) (hr : Rd w b s i op) (hc : 0 ≤ c ∧ c < 256) (hn : nx s i = c) :
    Calls Try.prog 66 #[.pointer (some ⟨b, 0, none⟩), .int .u8 c] w fun e w' => e = .returned (.bool true) ∧ Rd w' b s (i + 1) op ∧ i < s.size ∧ Fr (At b) w w' := by
  obtain ⟨h0, h1, h2, f1, f2⟩ := hr.cells
  have hi : i < s.size := nx_nonneg (by omega)
  have hq : (nx s i != c) = false := by simp [hn]
  obtain ⟨hc1, hc2⟩ := hc
  clear hn
  go_enter Try.func66, Try.ntmps66
  go_wp2_with (go_at_call 70; refine (next_c _ s i op _ hr).mono ?_; rintro e w' ⟨rfl, n, rfl⟩)
  go_ret
  exact ⟨rfl, (hr.drewN n).setAt (by omega), hi, ((Fr.refl (At b) w).drewN n).set (p := ⟨b, 1, none⟩) (.inr rfl) _⟩
set_option maxRecDepth 100000 in
set_option maxHeartbeats 400000 in
theorem skip_f (c : Int) (hr : Rd w b s i op) (hc : 0 ≤ c ∧ c < 256) (hn : nx s i ≠ c) :
    Calls Try.prog 66 #[.pointer (some ⟨b, 0, none⟩), .int .u8 c] w fun e w' => e = .returned (.bool false) ∧ Rd w' b s i op ∧ Fr No w w' := by
  have hq : (nx s i != c) = true := by simp [hn]
  obtain ⟨hc1, hc2⟩ := hc
  clear hn
  go_enter Try.func66, Try.ntmps66
  go_wp2_with (go_at_call 70; refine (next_c _ s i op _ hr).mono ?_; rintro e w' ⟨rfl, n, rfl⟩)
  go_ret
  exact ⟨rfl, hr.drewN n, (Fr.refl _ _).drewN n⟩
theorem need_t (v : Value) (k : Int) : Calls Try.prog 60 #[v, .bool true, .int .i64 k] w fun e w' => e = .returned (.tuple #[]) ∧ w' = w := by
  go_enter Try.func60, Try.ntmps60
  go_wp2
  go_end0
  exact ⟨rfl, rfl⟩
theorem need_g (v : Value) (c : Bool) (k : Int) (hc : c = false) : Calls Try.prog 60 #[v, .bool c, .int .i64 k] w fun e w' => e = .panicked [{ v := .iface 90 (.int .i64 k), recovered := false }] ∧ w' = w := by
  subst hc
  go_enter Try.func60, Try.ntmps60
  go_wp2
  exact ⟨rfl, rfl, rfl⟩
theorem need_h (v : Value) (c : Bool) (k : Int) (hc : c = true) : Calls Try.prog 60 #[v, .bool c, .int .i64 k] w fun e w' => e = .returned (.tuple #[]) ∧ w' = w := by
  subst hc
  exact need_t w v k
theorem need_f (v : Value) (k : Nat) : Calls Try.prog 60 #[v, .bool false, .int .i64 k] w fun e w' => e = .panicked [{ v := .iface 90 (.int .i64 k), recovered := false }] ∧ w' = w := by
  go_enter Try.func60, Try.ntmps60
  go_wp2
  exact ⟨rfl, rfl, rfl⟩
end
end
section
open Go Go.RowKit

theorem ixOf_ge (l : List Nat) (c : Int) : -1 ≤ ixOf l c := by unfold ixOf; split <;> omega
theorem ixOf_lt (l : List Nat) (c : Int) : ixOf l c < l.length ∨ ixOf l c = -1 := by
  unfold ixOf; split
  · rename_i i h
    obtain ⟨h1, _⟩ := List.findIdx?_eq_some_iff_getElem.1 h
    left; omega
  · right; rfl
theorem ixOf_neg {l : List Nat} {c : Int} (h : c < 0) : ixOf l c = -1 := by
  unfold ixOf
  have : l.findIdx? (fun (x : Nat) => (x : Int) == c) = none := by
    rw [List.findIdx?_eq_none_iff]
    intro x _
    simp; omega
  rw [this]
theorem ixBytes (l : List UInt8) (m : List Nat) (h : (List.range 256).all (fun n => Lib.indexByte l n.toUInt8 == ixOf m n) = true) {c : Int} (h0 : 0 ≤ c) (h1 : c < 256) :
    Lib.indexByte l c.toNat.toUInt8 = ixOf m c := by
  obtain ⟨n, rfl⟩ := Int.eq_ofNat_of_zero_le h0
  have := List.all_eq_true.1 h n (by simp; omega)
  simpa using this

theorem digit_ne (s : ByteArray) (i : Nat) : Rx.digit s i ≠ .out := by unfold Rx.digit; split <;> simp
theorem digit_ok {s : ByteArray} {i j : Nat} {a : Int} (h : Rx.digit s i = .ok a j) : 0 ≤ a ∧ a < 16 := by
  unfold Rx.digit at h
  split at h
  · injection h with h1 h2
    subst h1
    have h3 := ixOf_lt hexes (nx s i)
    have h4 : hexes.length = 16 := rfl
    omega
  · cases h
section
variable (b : Nat) (s : ByteArray) (i op : Nat) (w : World)
theorem must_c (c : Int) (hs : s.size < 1099511627776) (hr : Rd w b s i op) (hc : 0 ≤ c ∧ c < 256) :
    Calls Try.prog 73 #[.pointer (some ⟨b, 0, none⟩), .int .u8 c] w (Out UnitV w b s op (Rx.must s c i)) := by
  unfold Rx.must
  by_cases hn : nx s i = c
  · rw [if_pos hn]
    go_enter Try.func73, Try.ntmps73
    go_wp2_with (first | (go_at_call 66; refine (skip_t _ s i op _ c hs hr hc hn).mono ?_; rintro e w1 ⟨rfl, hr1, hlt, hf1⟩; obtain ⟨h0, h1, h2, f1, f2⟩ := hr1.cells; clear hr) | (go_at_call 60; refine (need_t _ _ _).mono ?_; rintro e w2 ⟨rfl, rfl⟩))
    go_end0
    exact ⟨⟨_, rfl, rfl⟩, hr1, by omega, hf1⟩
  · rw [if_neg hn]
    go_enter Try.func73, Try.ntmps73
    go_wp2_with (first | (go_at_call 66; refine (skip_f _ s i op _ c hr hc hn).mono ?_; rintro e w1 ⟨rfl, hr1, hf1⟩; obtain ⟨h0, h1, h2, f1, f2⟩ := hr1.cells; clear hr) | (go_at_call 60; refine (need_f _ _ i).mono ?_; rintro e w2 ⟨rfl, rfl⟩))
    exact ⟨rfl, rfl, (Fr.refl (At b) w).no hf1⟩

theorem digit_c (hs : s.size < 1099511627776) (hr : Rd w b s i op) :
    Calls Try.prog 84 #[.pointer (some ⟨b, 0, none⟩)] w (Out IntV w b s op (Rx.digit s i)) := by
  unfold Rx.digit
  have hx := fun (h : 0 ≤ nx s i) => ixBytes [48, 49, 50, 51, 52, 53, 54, 55, 56, 57, 97, 98, 99, 100, 101, 102] hexes (by decide +kernel) h (by have := nx_le s i; omega)
  obtain ⟨h0, h1, h2, f1, f2⟩ := hr.cells
  by_cases hp : 0 ≤ nx s i
  · have Hx := hid (hx hp)
    clear hx
    have hl := nx_le s i
    have hlt := nx_nonneg hp
    by_cases hn : 0 ≤ ixOf hexes (nx s i)
    · rw [if_pos hn]
      go_enter Try.func84, Try.ntmps84
      go_wp2_with (first | (go_at_call 70; refine (next_c _ s i op _ hr).mono ?_; rintro e w1 ⟨rfl, n, rfl⟩) |
        (go_at_call 85; refine (Try.strings_IndexByte _ _ _).mono ?_; rintro e w2 ⟨rfl, rfl⟩; rw [Hx.out]) | (go_at_call 60; refine (need_t _ _ _).mono ?_; rintro e w3 ⟨rfl, rfl⟩))
      go_ret
      exact ⟨⟨_, rfl, rfl⟩, (by repeat (first | assumption | apply Rd.drewN | apply Rd.drew | apply Rd.alloc | (apply Rd.setAt (hx := by omega)) | (apply Rd.setOp (hx := by omega)) | (apply Rd.far (hp := by simp only []; omega)))), by omega, (by repeat (first | assumption | exact Fr.refl _ _ | apply Fr.drewN | apply Fr.drew | apply Fr.alloc | apply Fr.setB | (apply Fr.setNew (hp := by first | exact Nat.le_refl _ | (simp; done) | (simp; omega))) | (refine Fr.no ?_ (by assumption)) | (refine Fr.trans ?_ (by assumption))))⟩
    · rw [if_neg hn]
      have hd := decide_eq_false hn
      clear hn
      go_enter Try.func84, Try.ntmps84
      go_wp2_with (first | (go_at_call 70; refine (next_c _ s i op _ hr).mono ?_; rintro e w1 ⟨rfl, n, rfl⟩) |
        (go_at_call 85; refine (Try.strings_IndexByte _ _ _).mono ?_; rintro e w2 ⟨rfl, rfl⟩; rw [Hx.out]) | (go_at_call 60; refine (need_f _ _ i).mono ?_; rintro e w3 ⟨rfl, rfl⟩))
      exact ⟨rfl, rfl, (by repeat (first | assumption | exact Fr.refl _ _ | apply Fr.drewN | apply Fr.drew | apply Fr.alloc | apply Fr.setB | (apply Fr.setNew (hp := by first | exact Nat.le_refl _ | (simp; done) | (simp; omega))) | (refine Fr.no ?_ (by assumption)) | (refine Fr.trans ?_ (by assumption))))⟩
  · rw [if_neg (by rw [ixOf_neg (by omega)]; omega)]
    clear hx
    go_enter Try.func84, Try.ntmps84
    go_wp2_with (first | (go_at_call 70; refine (next_c _ s i op _ hr).mono ?_; rintro e w1 ⟨rfl, n, rfl⟩) | (go_at_call 60; refine (need_f _ _ i).mono ?_; rintro e w3 ⟨rfl, rfl⟩))
    exact ⟨rfl, rfl, (by repeat (first | assumption | exact Fr.refl _ _ | apply Fr.drewN | apply Fr.drew | apply Fr.alloc | apply Fr.setB | (apply Fr.setNew (hp := by first | exact Nat.le_refl _ | (simp; done) | (simp; omega))) | (refine Fr.no ?_ (by assumption)) | (refine Fr.trans ?_ (by assumption))))⟩
end
end
end Go.Proofs.Ytldmdlkjpdfonaa
