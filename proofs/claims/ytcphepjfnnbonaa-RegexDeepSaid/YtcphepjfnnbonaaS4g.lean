/- The walks of sieveref04.Escape, sieveref07.plain. Condition: a byte. -/
import Derived.Test.YtcphepjfnnbonaaS4f
import Derived.Laws.BytesArg
namespace Go.Proofs.Ytcphepjfnnbonaa
set_option linter.unusedVariables false
set_option linter.unusedSimpArgs false
open Go Go.RowKit

/-- The document's text of a byte. -/
def escT (n : Nat) : ByteArray := if plainB n = true then strOfNums [(n : Int)] else
  ⟨#[92, 120]⟩ ++ (⟨#[48, 49, 50, 51, 52, 53, 54, 55, 56, 57, 97, 98, 99, 100, 101, 102]⟩ : ByteArray).extract (n / 16) (n / 16 + 1) ++ (⟨#[48, 49, 50, 51, 52, 53, 54, 55, 56, 57, 97, 98, 99, 100, 101, 102]⟩ : ByteArray).extract (n % 16) (n % 16 + 1)
theorem escT_size (n : Nat) (h : n < 256) : (((escT n).size : Int) == 1) = plainB n := by
  unfold escT
  cases hp : plainB n with
  | true => rw [if_pos rfl]; rfl
  | false =>
    rw [if_neg (by decide)]
    have h1 : n / 16 + 1 ≤ 16 := by omega
    have h2 : n % 16 + 1 ≤ 16 := by omega
    have h3 : ∀ k : Nat, k + 1 ≤ 16 → ((⟨#[48, 49, 50, 51, 52, 53, 54, 55, 56, 57, 97, 98, 99, 100, 101, 102]⟩ : ByteArray).extract k (k + 1)).size = 1 := fun k hk => by
      rw [ByteArray.size_extract]
      have : (⟨#[48, 49, 50, 51, 52, 53, 54, 55, 56, 57, 97, 98, 99, 100, 101, 102]⟩ : ByteArray).size = 16 := rfl
      omega
    rw [ByteArray.size_append, ByteArray.size_append, h3 _ h1, h3 _ h2]
    rfl
set_option maxHeartbeats 1600000 in
theorem esc04_c (n : Nat) (w : World) (h1 : n < 256) : Calls Try.prog 59 #[.int .i64 n] w fun e w' => e = .returned (.string (escT n)) ∧ Fr No w w' := by
  unfold escT
  have hP := fun W => plain04_c n W
  cases hp : plainB n with
  | true =>
    rw [hp] at hP
    go_enter Try.func59, Try.ntmps59
    go_wp2_with (go_at_call 62; refine (hP _).mono ?_; rintro e w2 ⟨rfl, rfl⟩)
    have hcv := run_convert_bytes_arg (P := Try.prog) (w2.alloc (.cells #[.int .u8 n] 5)) 72 5 Try.underlying72 Try.underlying5 w2.heap.size 0 1 1 [(n : Int)] rfl (fun i hi => by
      obtain rfl : i = 0 := by omega
      rw [(Blk.new w2 5 #[.int .u8 n]).cell]; rfl) 9 Try.underlying9
    rw [hcv]
    go_wp2
    go_ret
    exact ⟨rfl, (Fr.refl No w2).alloc _⟩
  | false =>
    rw [hp] at hP
    have hq0 : (0 : Int) ≤ (n : Int) / 16 := by omega
    have hq1 : (n : Int) / 16 < 16 := by omega
    have hq2 : (n : Int) / 16 + 1 ≤ 16 := by omega
    have hq3 : (n : Int) / 16 ≤ (n : Int) / 16 + 1 := by omega
    have hr0 : (0 : Int) ≤ (n : Int) % 16 := by omega
    have hr1 : (n : Int) % 16 < 16 := by omega
    have hr2 : (n : Int) % 16 + 1 ≤ 16 := by omega
    have hr3 : (n : Int) % 16 ≤ (n : Int) % 16 + 1 := by omega
    generalize hq : (n : Int) / 16 = q at *
    generalize hr : (n : Int) % 16 = r at *
    obtain ⟨q', rfl⟩ := Int.eq_ofNat_of_zero_le hq0
    obtain ⟨r', rfl⟩ := Int.eq_ofNat_of_zero_le hr0
    go_enter Try.func59, Try.ntmps59
    go_wp2_with (go_at_call 62; refine (hP _).mono ?_; rintro e w2 ⟨rfl, rfl⟩)
    go_quiet (fail)
    go_wp2_with fail
    go_ret
    refine ⟨?_, (Fr.refl No w2).drewN _⟩
    rw [show n / 16 = q' by omega, show n % 16 = r' by omega]
    rfl
set_option maxHeartbeats 800000 in
theorem rplain_c (c : Int) (w : World) (h1 : c < 256) : Calls Try.prog 54 #[.int .i64 c] w fun e w' => e = .returned (.bool (decide (0 ≤ c) && plainB c)) ∧ Fr No w w' := by
  by_cases h0 : 0 ≤ c
  · obtain ⟨n, rfl⟩ := Int.eq_ofNat_of_zero_le h0
    have hE := fun W => esc04_c n W (by omega)
    have hs := escT_size n (by omega)
    have hd : decide ((0 : Int) ≤ (n : Int)) = true := decide_eq_true h0
    generalize hpl : plainB n = pl at *
    generalize escT n = t at *
    clear hpl
    rw [hd]
    go_enter Try.func54, Try.ntmps54
    go_wp2_with (go_at_call 59; refine (hE _).mono ?_; rintro e w2 ⟨rfl, hf2⟩)
    go_ret
    exact ⟨by cases pl <;> rfl, hf2⟩
  · have hd : decide (0 ≤ c) = false := decide_eq_false h0
    rw [hd]
    go_enter Try.func54, Try.ntmps54
    go_wp2
    go_ret
    exact ⟨rfl, Fr.refl _ _⟩
end Go.Proofs.Ytcphepjfnnbonaa
