/- The walks of the expression reader's small functions: what each comes to is what the plain words of Rx say. Condition: the text has fewer than 2^40 bytes. -/
import Derived.Test.YtcphepjfnnbonaaBase
import Derived.Test.YtcphepjfnnbonaaRx
import Derived.Test.YtcphepjfnnbonaaShelf
namespace Go.Proofs.Ytcphepjfnnbonaa
set_option linter.unusedVariables false
set_option linter.unusedSimpArgs false
open Go Go.RowKit

/-- The reader's block. -/
def Rd (w : World) (b : Nat) (s : ByteArray) (i op : Nat) : Prop := Blk w b 45 #[.string s, .int .i64 i, .int .i64 op]
section
variable {w w' : World} {b : Nat} {s : ByteArray} {i op : Nat}
theorem Rd.cells (h : Rd w b s i op) : w.cell? ⟨b, 0, none⟩ = some (.string s) ∧ w.cell? ⟨b, 1, none⟩ = some (.int .i64 i) ∧ w.cell? ⟨b, 2, none⟩ = some (.int .i64 op) ∧
    w.frozen? ⟨b, 1, none⟩ = false ∧ w.frozen? ⟨b, 2, none⟩ = false :=
  ⟨h.cell 0, h.cell 1, h.cell 2, h.frozen 1, h.frozen 2⟩
theorem Rd.drewN (h : Rd w b s i op) (n : Nat) : Rd (w.drewN n) b s i op := h
theorem Rd.drew (h : Rd w b s i op) : Rd w.drew b s i op := h
theorem Rd.alloc (h : Rd w b s i op) (o : Obj) : Rd (w.alloc o) b s i op := Blk.alloc h o
theorem Rd.far (h : Rd w b s i op) {p : Addr} (hp : b ≠ p.block) (u : Value) : Rd (w.setCell p u) b s i op := Blk.far h hp u
theorem Rd.setAt (h : Rd w b s i op) {x : Int} {j : Nat} (hx : x = j) : Rd (w.setCell ⟨b, 1, none⟩ (.int .i64 x)) b s j op := by subst hx; exact Blk.set_ h 1 _
theorem Rd.setOp (h : Rd w b s i op) {x : Int} {j : Nat} (hx : x = j) : Rd (w.setCell ⟨b, 2, none⟩ (.int .i64 x)) b s i j := by subst hx; exact Blk.set_ h 2 _
theorem Rd.lt (h : Rd w b s i op) : b < w.heap.size := Blk.lt h
theorem Rd.fr {M : Nat → Prop} (h : Rd w b s i op) (hf : Fr M w w') (hn : ¬ M b) : Rd w' b s i op := hf.blk h hn
end
/-- The reader gives up. -/
abbrev Pan (k : Nat) : Ending := .panicked [{ v := .iface 42 (.int .i64 k), recovered := false }]
/-- What a reader's function comes to: a value that stands for it, and the place; or it gives up. -/
def Out {α : Type} (F : World → Value → α → Prop) (w : World) (b : Nat) (s : ByteArray) (op : Nat) : R α → Ending → World → Prop
  | .ok a j, e, w' => (∃ v, e = .returned v ∧ F w' v a) ∧ Rd w' b s j op ∧ j ≤ s.size ∧ Fr (At b) w w'
  | .bad k, e, w' => e = Pan k ∧ Fr (At b) w w'
  | .out, _, _ => True
def IntV : World → Value → Int → Prop := fun _ v a => v = .int .i64 a
def ByteV : World → Value → Int → Prop := fun _ v a => v = .int .u8 a ∧ 0 ≤ a ∧ a < 256
def UnitV : World → Value → Unit → Prop := fun _ v _ => v = .tuple #[]

section
variable (b : Nat) (s : ByteArray) (i op : Nat) (w : World)
set_option maxHeartbeats 400000 in
theorem next_c (hr : Rd w b s i op) :
    Calls Try.prog 31 #[.pointer (some ⟨b, 0, none⟩)] w fun e w' => e = .returned (.int .i64 (nx s i)) ∧ ∃ n, w' = w.drewN n := by
  obtain ⟨h0, h1, h2, f1, f2⟩ := hr.cells
  clear hr
  by_cases hi : i < s.size
  · have hn : nx s i = _ := nx_lt hi
    have hb := s[i].toNat_lt
    have Hn := hid hn
    clear hn
    go_enter Try.func31, Try.ntmps31
    go_wp2
    go_quiet (fail)
    go_wp2
    go_quiet (fail)
    go_wp2
    go_ret
    exact ⟨by rw [Hn.out]; rfl, by first | exact ⟨_, rfl⟩ | exact ⟨_, World.drewN_drewN _ _ _⟩ | (rw [World.drewN_drewN]; exact ⟨_, rfl⟩)⟩
  · have hn : nx s i = _ := nx_out (by omega)
    have Hn := hid hn
    clear hn
    go_enter Try.func31, Try.ntmps31
    go_wp2
    go_quiet (fail)
    go_wp2
    go_ret
    exact ⟨by rw [Hn.out]; rfl, by first | exact ⟨_, rfl⟩ | exact ⟨_, World.drewN_drewN _ _ _⟩ | (rw [World.drewN_drewN]; exact ⟨_, rfl⟩)⟩
set_option maxHeartbeats 400000 in
theorem skip_t (c : Int) (hs : s.size < 1099511627776) (hr : Rd w b s i op) (hc : 0 ≤ c ∧ c < 256) (hn : nx s i = c) :
    Calls Try.prog 24 #[.pointer (some ⟨b, 0, none⟩), .int .u8 c] w fun e w' => e = .returned (.bool true) ∧ Rd w' b s (i + 1) op ∧ i < s.size ∧ Fr (At b) w w' := by
  obtain ⟨h0, h1, h2, f1, f2⟩ := hr.cells
  have hi : i < s.size := nx_nonneg (by omega)
  have hq : (nx s i != c) = false := by simp [hn]
  obtain ⟨hc1, hc2⟩ := hc
  clear hn
  go_enter Try.func24, Try.ntmps24
  go_wp2_with (go_at_call 31; refine (next_c _ s i op _ hr).mono ?_; rintro e w' ⟨rfl, n, rfl⟩)
  go_ret
  exact ⟨rfl, (hr.drewN n).setAt (by omega), hi, ((Fr.refl (At b) w).drewN n).set (p := ⟨b, 1, none⟩) (.inr rfl) _⟩
set_option maxHeartbeats 400000 in
theorem skip_f (c : Int) (hr : Rd w b s i op) (hc : 0 ≤ c ∧ c < 256) (hn : nx s i ≠ c) :
    Calls Try.prog 24 #[.pointer (some ⟨b, 0, none⟩), .int .u8 c] w fun e w' => e = .returned (.bool false) ∧ Rd w' b s i op ∧ Fr No w w' := by
  have hq : (nx s i != c) = true := by simp [hn]
  obtain ⟨hc1, hc2⟩ := hc
  clear hn
  go_enter Try.func24, Try.ntmps24
  go_wp2_with (go_at_call 31; refine (next_c _ s i op _ hr).mono ?_; rintro e w' ⟨rfl, n, rfl⟩)
  go_ret
  exact ⟨rfl, hr.drewN n, (Fr.refl _ _).drewN n⟩
theorem need_t (v : Value) (k : Int) : Calls Try.prog 18 #[v, .bool true, .int .i64 k] w fun e w' => e = .returned (.tuple #[]) ∧ w' = w := by
  go_enter Try.func18, Try.ntmps18
  go_wp2
  go_end0
  exact ⟨rfl, rfl⟩
theorem need_g (v : Value) (c : Bool) (k : Int) (hc : c = false) : Calls Try.prog 18 #[v, .bool c, .int .i64 k] w fun e w' => e = .panicked [{ v := .iface 42 (.int .i64 k), recovered := false }] ∧ w' = w := by
  subst hc
  go_enter Try.func18, Try.ntmps18
  go_wp2
  exact ⟨rfl, rfl, rfl⟩
theorem need_h (v : Value) (c : Bool) (k : Int) (hc : c = true) : Calls Try.prog 18 #[v, .bool c, .int .i64 k] w fun e w' => e = .returned (.tuple #[]) ∧ w' = w := by
  subst hc
  exact need_t w v k
theorem need_f (v : Value) (k : Nat) : Calls Try.prog 18 #[v, .bool false, .int .i64 k] w fun e w' => e = .panicked [{ v := .iface 42 (.int .i64 k), recovered := false }] ∧ w' = w := by
  go_enter Try.func18, Try.ntmps18
  go_wp2
  exact ⟨rfl, rfl, rfl⟩
end
end Go.Proofs.Ytcphepjfnnbonaa
