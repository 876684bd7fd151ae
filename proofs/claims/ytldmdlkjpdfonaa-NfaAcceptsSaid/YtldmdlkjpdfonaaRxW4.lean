/- The walks of bytes256.plain and bytes256.Escape. -/
import Derived.Test.YtldmdlkjpdfonaaRxW3
namespace Go.Proofs.Ytldmdlkjpdfonaa
set_option linter.unusedVariables false
set_option linter.unusedSimpArgs false
open Go Go.RowKit

def hexB (n : Int) : UInt8 := (hexes.getD n.toNat 0).toUInt8
/-- A byte, written. -/
def escB (c : Int) : ByteArray := if plainB c = true then ⟨#[c.toNat.toUInt8]⟩ else ⟨#[92, 120, hexB (c / 16), hexB (c % 16)]⟩
theorem escB_size (c : Int) : ((escB c).size == 1) = plainB c := by
  unfold escB; split
  · rename_i h; rw [h]; rfl
  · rename_i h
    have : plainB c = false := by simpa using h
    rw [this]; rfl
def low (c : Int) : Int := bits BinOp.or IntKind.u8 c 32
theorem plainB_low {c : Int} (h0 : 0 ≤ c) (h1 : c < 256) : plainB c = ((decide (97 ≤ low c) && decide (low c ≤ 122)) || (decide (48 ≤ c) && decide (c ≤ 57)) || decide (0 ≤ ixOf signs c)) := by
  obtain ⟨n, rfl⟩ := Int.eq_ofNat_of_zero_le h0
  have h : ((List.range 256).all fun n => plainB n == ((decide (97 ≤ low n) && decide (low n ≤ 122)) || (decide (48 ≤ (n : Int)) && decide ((n : Int) ≤ 57)) || decide (0 ≤ ixOf signs n))) = true := by decide +kernel
  simpa using List.all_eq_true.1 h n (by simp; omega)
theorem low_bd {c : Int} (h0 : 0 ≤ c) (h1 : c < 256) : 0 ≤ low c ∧ low c ≤ 255 := by
  obtain ⟨n, rfl⟩ := Int.eq_ofNat_of_zero_le h0
  have h : ((List.range 256).all fun n => decide (0 ≤ low n) && decide (low n ≤ 255)) = true := by decide +kernel
  simpa using List.all_eq_true.1 h n (by simp; omega)

set_option maxRecDepth 100000 in
set_option maxHeartbeats 800000 in
theorem plain_c (c : Int) (w : World) (h0 : 0 ≤ c) (h1 : c < 256) : Calls Try.prog 86 #[.int .u8 c] w fun e w' => e = .returned (.bool (plainB c)) ∧ w' = w := by
  have Hp := hid (plainB_low h0 h1)
  have Hx := hid (ixBytes [32, 33, 34, 35, 37, 38, 39, 44, 47, 58, 59, 60, 61, 62, 64, 95, 96, 126] signs (by decide +kernel) h0 h1)
  have hl := low_bd h0 h1
  generalize hlo : low c = x at *
  have Hlo := hid hlo
  have hlo' : bits BinOp.or IntKind.u8 c 32 = x := hlo
  clear hlo
  obtain ⟨hl0, hl1⟩ := hl
  by_cases ha : 97 ≤ x <;> by_cases hb : x ≤ 122 <;> by_cases hc : 48 ≤ c <;> by_cases hd : c ≤ 57 <;> try omega
  all_goals
    go_enter Try.func86, Try.ntmps86
    go_wp2_with (go_at_call 85; refine (Try.strings_IndexByte _ _ _).mono ?_; rintro e w2 ⟨rfl, rfl⟩; rw [Hx.out])
    go_ret
    refine ⟨?_, rfl⟩
    rw [Hp.out]
    first
      | (simp [*]; done)
      | (simp [*]; omega)

theorem hex_slice (q : Int) (h0 : 0 ≤ q) (h1 : q < 16) (W : World) :
    (Instr.slice 9 (.string { data := #[48, 49, 50, 51, 52, 53, 54, 55, 56, 57, 97, 98, 99, 100, 101, 102] }) (some (.int .u8 q)) (some (.int .u8 (q + 1))) none).run Try.prog W = .ok (.string ⟨#[hexB q]⟩) W := by
  have : q = 0 ∨ q = 1 ∨ q = 2 ∨ q = 3 ∨ q = 4 ∨ q = 5 ∨ q = 6 ∨ q = 7 ∨ q = 8 ∨ q = 9 ∨ q = 10 ∨ q = 11 ∨ q = 12 ∨ q = 13 ∨ q = 14 ∨ q = 15 := by omega
  rcases this with h | h | h | h | h | h | h | h | h | h | h | h | h | h | h | h <;> subst h <;> (show _ = _; kernel_rfl)
theorem and15 {c : Int} (h0 : 0 ≤ c) (h1 : c < 256) : bits BinOp.and IntKind.u8 c 15 = c % 16 := by
  obtain ⟨n, rfl⟩ := Int.eq_ofNat_of_zero_le h0
  have h : ((List.range 256).all fun n => bits BinOp.and IntKind.u8 n 15 == (n : Int) % 16) = true := by decide +kernel
  simpa using List.all_eq_true.1 h n (by simp; omega)
set_option maxRecDepth 100000 in
set_option maxHeartbeats 800000 in
theorem escape_str (c : Int) (w : World) (h0 : 0 ≤ c) (h1 : c < 256) : Calls Try.prog 83 #[.int .u8 c] w fun e w' => e = .returned (.string (escB c)) ∧ Fr No w w' := by
  cases hp : plainB c with
  | true =>
    have hcv := run_convert_bytes_arg (P := Try.prog) (w.alloc (.cells #[.int .u8 c] 5)) 112 5 Try.underlying112 Try.underlying5 w.heap.size 0 1 1 [c] rfl (fun i hi => by have h : i = 0 := (by omega); subst h; exact (Blk.new w 5 #[.int .u8 c]).cell 0) 9 Try.underlying9
    go_enter Try.func83, Try.ntmps83
    go_wp2_with (go_at_call 86; refine (plain_c c _ h0 h1).mono ?_; rintro e w2 ⟨rfl, rfl⟩; rw [hp])
    go_ret
    refine ⟨?_, (Fr.refl No _).alloc _⟩
    unfold escB
    rw [if_pos hp]
    rfl
  | false =>
    have e1 := hex_slice (c / 16) (by omega) (by omega)
    have e2 := hex_slice (c % 16) (by omega) (by omega)
    have e3 := and15 h0 h1
    go_enter Try.func83, Try.ntmps83
    go_wp2_with (go_at_call 86; refine (plain_c c _ h0 h1).mono ?_; rintro e w2 ⟨rfl, rfl⟩; rw [hp])
    go_quiet (fail)
    go_wp2
    go_ret
    refine ⟨?_, (Fr.refl No _).drewN _⟩
    unfold escB
    rw [if_neg (by simp [hp])]
    rfl
end Go.Proofs.Ytldmdlkjpdfonaa
