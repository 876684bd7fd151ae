/- The plain law of RegexDeep: many brackets round a right text without any. No program in sight. -/
import Derived.Test.YtcphepjfnnbonaaRxSh2
namespace Go.Proofs.Ytcphepjfnnbonaa
set_option linter.unusedVariables false
set_option linter.unusedSimpArgs false

def opens : Nat → ByteArray
  | 0 => ⟨#[]⟩
  | n + 1 => opens n ++ ⟨#[40]⟩
def shuts : Nat → ByteArray
  | 0 => ⟨#[]⟩
  | n + 1 => shuts n ++ ⟨#[41]⟩
theorem opens_size : ∀ n, (opens n).size = n
  | 0 => rfl
  | n + 1 => by rw [opens, ByteArray.size_append, opens_size n]; rfl
theorem shuts_size : ∀ n, (shuts n).size = n
  | 0 => rfl
  | n + 1 => by rw [shuts, ByteArray.size_append, shuts_size n]; rfl
theorem opens_nx : ∀ (n i : Nat), i < n → nx (opens n) i = 40
  | n + 1, i, h => by
    rw [opens]
    rcases Nat.lt_or_ge i n with h1 | h1
    · rw [nx_left (by rw [opens_size]; exact h1)]; exact opens_nx n i h1
    · obtain rfl : i = n := by omega
      have := nx_right (a := opens i) (b := ⟨#[40]⟩) 0
      rw [Nat.zero_add, opens_size] at this
      rw [this]; rfl
theorem shuts_nx : ∀ (n i : Nat), i < n → nx (shuts n) i = 41
  | n + 1, i, h => by
    rw [shuts]
    rcases Nat.lt_or_ge i n with h1 | h1
    · rw [nx_left (by rw [shuts_size]; exact h1)]; exact shuts_nx n i h1
    · obtain rfl : i = n := by omega
      have := nx_right (a := shuts i) (b := ⟨#[41]⟩) 0
      rw [Nat.zero_add, shuts_size] at this
      rw [this]; rfl
structure Deep (s t : ByteArray) (n : Nat) : Prop where
  size : t.size = n + s.size + n
  front : ∀ i, i < n → nx t i = 40
  mid : ∀ i, i < s.size → nx t (i + n) = nx s i
  back : ∀ i, i < n → nx t (n + s.size + i) = 41
theorem Deep.mk_ (s : ByteArray) (n : Nat) : Deep s (opens n ++ s ++ shuts n) n := by
  have h1 : (opens n ++ s).size = n + s.size := by rw [ByteArray.size_append, opens_size]
  refine ⟨by rw [ByteArray.size_append, h1, shuts_size], fun i hi => ?_, fun i hi => ?_, fun i hi => ?_⟩
  · rw [nx_left (by omega), nx_left (by rw [opens_size]; exact hi)]; exact opens_nx n i hi
  · rw [nx_left (by omega)]
    have := nx_right (a := opens n) (b := s) i
    rw [opens_size] at this; exact this
  · have := nx_right (a := opens n ++ s) (b := shuts n) i
    rw [h1, show i + (n + s.size) = n + s.size + i by omega] at this
    rw [this]; exact shuts_nx n i hi
theorem deep_in {s t : ByteArray} {n : Nat} {w : Nd} (D : Deep s t n) (hn : ∀ i, nx s i ≠ 40) (h : Rx.alt s 12 0 = .ok w s.size) : ∀ (m dd : Nat), m ≤ n → m ≤ dd → Rx.alt t dd (n - m) = .ok w (n + s.size + m)
  | 0, dd, _, _ => by
    have stop : nx t (s.size + n) = 41 ∨ nx t (s.size + n) = -1 := by
      rcases Nat.eq_zero_or_pos n with h0 | h0
      · right; exact nx_out (by rw [D.size]; omega)
      · left
        have := D.back 0 h0
        rw [show n + s.size + 0 = s.size + n by omega] at this
        exact this
    have C : Sh s t n := ⟨D.mid, stop, by rw [D.size]; omega⟩
    rcases alt_np C hn 11 dd 0 (Nat.zero_le _) w s.size h with h2 | ⟨hf, _⟩
    · rw [Nat.zero_add] at h2
      rw [Nat.sub_zero, h2]
      congr 1; omega
    · exact hf.elim
  | m + 1, 0, _, h2 => by omega
  | m + 1, dd + 1, h1, h2 => by
    have ih := deep_in D hn h m dd (by omega) (by omega)
    have e : n - m = n - (m + 1) + 1 := by omega
    rw [e] at ih
    refine alt_paren (D.front _ (by omega)) ih (D.back m (by omega)) ?_
    show nx t (n + s.size + m + 1) = -1 ∨ nx t (n + s.size + m + 1) = 41
    rcases Nat.lt_or_ge (m + 1) n with h3 | h3
    · right; exact D.back (m + 1) h3
    · left; exact nx_out (by rw [D.size]; omega)
theorem deep_ok {s t : ByteArray} {n j : Nat} {w : Nd} (D : Deep s t n) (hn : ∀ i, nx s i ≠ 40) (h : Rx.parse s = .ok w j) (h12 : n ≤ 12) : Rx.parse t = .ok w 0 := by
  refine parse_of ?_
  have := deep_in D hn (parse_ok h) n 12 (Nat.le_refl _) h12
  rw [Nat.sub_self] at this
  rw [this, D.size]
theorem deep_over {s t : ByteArray} {n : Nat} (D : Deep s t n) (h12 : 12 < n) : ∀ k, k ≤ 12 → Rx.alt t k (12 - k) = .bad 12
  | 0, _ => alt_full (D.front 12 h12)
  | k + 1, hk => by
    have ih := deep_over D h12 k (by omega)
    have e : 12 - k = 12 - (k + 1) + 1 := by omega
    rw [e] at ih
    exact alt_wrong (D.front _ (by omega)) ih
theorem deep_bad {s t : ByteArray} {n : Nat} (D : Deep s t n) (h12 : 12 < n) : Rx.parse t = .bad 12 := parse_wrong (deep_over D h12 12 (Nat.le_refl _))
end Go.Proofs.Ytcphepjfnnbonaa
