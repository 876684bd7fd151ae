/- The walks of sieveref07's parser: next, fail, must, digit. Condition: the text has fewer than 2^40 bytes. -/
import Derived.Test.YtcphepjfnnbonaaS4g
namespace Go.Proofs.Ytcphepjfnnbonaa
set_option linter.unusedVariables false
set_option linter.unusedSimpArgs false
open Go Go.RowKit

/-- The parser's block. -/
def Ps (w : World) (b : Nat) (s : ByteArray) (x bad : Int) (op : Nat) : Prop := Blk w b 51 #[.string s, .int .i64 x, .int .i64 bad, .int .i64 op]
section
variable {w w' : World} {b : Nat} {s : ByteArray} {x bad : Int} {op : Nat}
theorem Ps.cells (h : Ps w b s x bad op) : w.cell? ⟨b, 0, none⟩ = some (.string s) ∧ w.cell? ⟨b, 1, none⟩ = some (.int .i64 x) ∧ w.cell? ⟨b, 2, none⟩ = some (.int .i64 bad) ∧ w.cell? ⟨b, 3, none⟩ = some (.int .i64 op) ∧
    w.frozen? ⟨b, 1, none⟩ = false ∧ w.frozen? ⟨b, 2, none⟩ = false ∧ w.frozen? ⟨b, 3, none⟩ = false :=
  ⟨h.cell 0, h.cell 1, h.cell 2, h.cell 3, h.frozen 1, h.frozen 2, h.frozen 3⟩
theorem Ps.drewN (h : Ps w b s x bad op) (n : Nat) : Ps (w.drewN n) b s x bad op := h
theorem Ps.drew (h : Ps w b s x bad op) : Ps w.drew b s x bad op := h
theorem Ps.alloc (h : Ps w b s x bad op) (o : Obj) : Ps (w.alloc o) b s x bad op := Blk.alloc h o
theorem Ps.far (h : Ps w b s x bad op) {p : Addr} (hp : b ≠ p.block) (u : Value) : Ps (w.setCell p u) b s x bad op := Blk.far h hp u
theorem Ps.setAt (h : Ps w b s x bad op) {y z : Int} (hx : y = z) : Ps (w.setCell ⟨b, 1, none⟩ (.int .i64 y)) b s z bad op := by subst hx; exact Blk.set_ h 1 _
theorem Ps.setBad (h : Ps w b s x bad op) {y z : Int} (hx : y = z) : Ps (w.setCell ⟨b, 2, none⟩ (.int .i64 y)) b s x z op := by subst hx; exact Blk.set_ h 2 _
theorem Ps.setOp (h : Ps w b s x bad op) {y : Int} {j : Nat} (hx : y = j) : Ps (w.setCell ⟨b, 3, none⟩ (.int .i64 y)) b s x bad j := by subst hx; exact Blk.set_ h 3 _
theorem Ps.lt (h : Ps w b s x bad op) : b < w.heap.size := Blk.lt h
theorem Ps.fr {M : Nat → Prop} (h : Ps w b s x bad op) (hf : Fr M w w') (hn : ¬ M b) : Ps w' b s x bad op := hf.blk h hn
end
/-- What a function of the parser comes to: a value that stands for it, and the place; or something was wrong, and is noted. -/
def OutP {α : Type} (F : World → Value → α → Prop) (w : World) (b : Nat) (s : ByteArray) (op : Nat) : R α → Ending → World → Prop
  | .ok a j, e, w' => (∃ v, e = .returned v ∧ F w' v a) ∧ Ps w' b s j (-1) op ∧ j ≤ s.size ∧ Fr (At b) w w'
  | .bad k, e, w' => (∃ v a, e = .returned v ∧ F w' v a) ∧ (∃ x : Int, Ps w' b s x k op) ∧ k ≤ s.size ∧ Fr (At b) w w'
  | .out, _, _ => True

section
variable (b : Nat) (s : ByteArray) (i op : Nat) (w : World)
set_option maxHeartbeats 800000 in
theorem pnext_a (hr : Ps w b s i (-1) op) :
    Calls Try.prog 28 #[.pointer (some ⟨b, 0, none⟩)] w fun e w' => e = .returned (.int .i64 (nx s i)) ∧ ∃ n, w' = w.drewN n := by
  obtain ⟨h0, h1, h2, h3, f1, f2, f3⟩ := hr.cells
  clear hr
  by_cases hi : i < s.size
  · have hn : nx s i = _ := nx_lt hi
    have hb := s[i].toNat_lt
    have hd : decide (s.size ≤ i) = false := decide_eq_false (by omega)
    have Hn := hid hn
    clear hn
    go_enter Try.func28, Try.ntmps28
    go_wp2
    go_quiet (fail)
    go_wp2
    go_quiet (fail)
    go_wp2
    go_ret
    exact ⟨by rw [Hn.out]; rfl, by first | exact ⟨_, rfl⟩ | exact ⟨_, World.drewN_drewN _ _ _⟩ | (rw [World.drewN_drewN]; exact ⟨_, rfl⟩)⟩
  · have hn : nx s i = _ := nx_out (by omega)
    have Hn := hid hn
    have hd : decide (s.size ≤ i) = true := decide_eq_true (by omega)
    clear hn
    go_enter Try.func28, Try.ntmps28
    go_wp2
    go_quiet (fail)
    go_wp2
    go_ret
    exact ⟨by rw [Hn.out]; rfl, by first | exact ⟨_, rfl⟩ | exact ⟨_, World.drewN_drewN _ _ _⟩ | (rw [World.drewN_drewN]; exact ⟨_, rfl⟩)⟩
set_option maxHeartbeats 800000 in
theorem pnext_d (x : Int) (k : Nat) (hr : Ps w b s x k op) :
    Calls Try.prog 28 #[.pointer (some ⟨b, 0, none⟩)] w fun e w' => e = .returned (.int .i64 (-1)) ∧ ∃ n, w' = w.drewN n := by
  obtain ⟨h0, h1, h2, h3, f1, f2, f3⟩ := hr.cells
  have hk : (0 : Int) ≤ (k : Int) := by omega
  clear hr
  go_enter Try.func28, Try.ntmps28
  go_wp2
  go_quiet (fail)
  go_wp2
  go_ret
  exact ⟨rfl, by first | exact ⟨_, rfl⟩ | exact ⟨_, World.drewN_drewN _ _ _⟩ | (rw [World.drewN_drewN]; exact ⟨_, rfl⟩)⟩
set_option maxHeartbeats 800000 in
theorem pfail_a (x y : Int) (hr : Ps w b s x (-1) op) :
    Calls Try.prog 22 #[.pointer (some ⟨b, 0, none⟩), .int .i64 y] w fun e w' => e = .returned (.tuple #[]) ∧ Ps w' b s x y op ∧ Fr (At b) w w' := by
  obtain ⟨h0, h1, h2, h3, f1, f2, f3⟩ := hr.cells
  go_enter Try.func22, Try.ntmps22
  go_wp2
  go_end0
  exact ⟨rfl, hr.setBad rfl, (Fr.refl (At b) w).setB 2 _⟩
set_option maxHeartbeats 800000 in
theorem pfail_d (x y : Int) (k : Nat) (hr : Ps w b s x k op) :
    Calls Try.prog 22 #[.pointer (some ⟨b, 0, none⟩), .int .i64 y] w fun e w' => e = .returned (.tuple #[]) ∧ w' = w := by
  obtain ⟨h0, h1, h2, h3, f1, f2, f3⟩ := hr.cells
  have hk : (0 : Int) ≤ (k : Int) := by omega
  have hd : decide ((k : Int) < 0) = false := decide_eq_false (by omega)
  go_enter Try.func22, Try.ntmps22
  go_wp2
  go_end0
  exact ⟨rfl, rfl⟩
end
end Go.Proofs.Ytcphepjfnnbonaa
