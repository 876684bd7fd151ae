/- The walks of sieveref04.plain, Escape, sieveref07.plain. No condition. -/
import Derived.Test.YtcphepjfnnbonaaS4e
namespace Go.Proofs.Ytcphepjfnnbonaa
set_option linter.unusedVariables false
set_option linter.unusedSimpArgs false
open Go Go.RowKit

theorem sign_at (j : Nat) (h : j < 18) : ((⟨#[32, 33, 34, 35, 37, 38, 39, 44, 47, 58, 59, 60, 61, 62, 64, 95, 96, 126]⟩ : ByteArray)[j]'h).toNat = signs[j]'h := by
  have : ∀ j : Fin 18, ((⟨#[32, 33, 34, 35, 37, 38, 39, 44, 47, 58, 59, 60, 61, 62, 64, 95, 96, 126]⟩ : ByteArray)[j.1]'j.2).toNat = signs[j.1]'j.2 := by decide
  exact this ⟨j, h⟩
set_option maxHeartbeats 1600000 in
theorem plain04_no (c : Int) (w : World) (b1 b2 b3 b4 b5 b6 : Bool) (e1 : decide (97 ≤ c) = b1) (e2 : decide (c ≤ 122) = b2) (e3 : decide (65 ≤ c) = b3) (e4 : decide (c ≤ 90) = b4) (e5 : decide (48 ≤ c) = b5) (e6 : decide (c ≤ 57) = b6)
    (hp : (b1, b2, b3, b4, b5, b6) ∈ [(false, true, false, true, false, true), (false, true, false, true, true, false), (false, true, true, false, true, false), (true, false, true, false, true, false)]) :
    Calls Try.prog 62 #[.int .i64 c] w fun e w' => e = .returned (.bool (plainB c)) ∧ w' = w := by
  have hpl : plainB c = decide (0 ≤ ixOf signs c) := by
    unfold plainB
    simp only [List.mem_cons, Prod.mk.injEq, List.not_mem_nil, or_false] at hp
    rw [e1, e2, e3, e4, e5, e6]
    rcases hp with ⟨rfl, rfl, rfl, rfl, rfl, rfl⟩ | ⟨rfl, rfl, rfl, rfl, rfl, rfl⟩ | ⟨rfl, rfl, rfl, rfl, rfl, rfl⟩ | ⟨rfl, rfl, rfl, rfl, rfl, rfl⟩ <;> rfl
  have Hpl := hid hpl
  clear hpl
  simp only [List.mem_cons, Prod.mk.injEq, List.not_mem_nil, or_false] at hp
  rcases hp with ⟨rfl, rfl, rfl, rfl, rfl, rfl⟩ | ⟨rfl, rfl, rfl, rfl, rfl, rfl⟩ | ⟨rfl, rfl, rfl, rfl, rfl, rfl⟩ | ⟨rfl, rfl, rfl, rfl, rfl, rfl⟩
  all_goals
    go_enter Try.func62, Try.ntmps62
    go_wp2
    go_loopg [4] 18 (fun g i wr => ∃ j : Nat, j + g = 18 ∧ i = .int .i64 j ∧ Aside (∀ i, i < j → ∀ x, signs[i]? = some x → (x : Int) ≠ c) ∧ wr = w)
    case atStart => exact ⟨0, by omega, rfl, hid (fun i hi => by omega), rfl⟩
    case round =>
      obtain ⟨j, hj, rfl, HA, rfl⟩ := hrel
      clear e1 e2 e3 e4 e5 e6
      cases gk with
      | zero =>
        obtain rfl : j = 18 := by omega
        have he : ixOf signs c = -1 := ixOf_none fun i x hx => HA.out i ((List.getElem?_eq_some_iff.1 hx).1) x hx
        have He := hid he
        clear he hj HA
        go_wp2
        go_ret
        exact ⟨by rw [Hpl.out, He.out]; rfl, rfl⟩
      | succ g =>
        have hlt : j < 18 := by omega
        have hd : decide (j < 18) = true := decide_eq_true hlt
        have hat := sign_at j hlt
        have hb : ((⟨#[32, 33, 34, 35, 37, 38, 39, 44, 47, 58, 59, 60, 61, 62, 64, 95, 96, 126]⟩ : ByteArray)[j]'hlt).toNat < 2 ^ 8 := UInt8.toNat_lt _
        have hj0 : (0 : Int) ≤ (j : Int) := by omega
        have hj16 : (j : Int) < 18 := by omega
        have Hj := hid hj
        clear hj
        cases hx : (((signs[j]'hlt : Nat) : Int) == c) with
        | true =>
          have he : ixOf signs c = j := ixOf_at hlt (by simpa using hx) HA.out
          have He := hid he
          clear he HA
          rw [← hat] at hx
          clear hat
          go_wp2
          go_ret
          exact ⟨by rw [Hpl.out, He.out]; simp, rfl⟩
        | false =>
          have hn : ∀ i, i < j + 1 → ∀ x, signs[i]? = some x → (x : Int) ≠ c := fun i hi x h => by
            rcases Nat.lt_or_ge i j with h1 | h1
            · exact HA.out i h1 x h
            · obtain rfl : i = j := by omega
              rw [List.getElem?_eq_getElem hlt] at h
              injection h with h
              rw [← h]
              simpa using hx
          have Hn := hid hn
          clear HA hn
          rw [← hat] at hx
          clear hat
          go_wp2
          go_roundg g
          case measure => omega
          case rel =>
            have hj1 : j + 1 + g = 18 := by have := Hj.out; omega
            exact ⟨j + 1, hj1, by simp, hid Hn.out, rfl⟩
set_option maxHeartbeats 1600000 in
theorem plain04_yes (c : Int) (w : World) (b1 b2 b3 b4 b5 b6 : Bool) (e1 : decide (97 ≤ c) = b1) (e2 : decide (c ≤ 122) = b2) (e3 : decide (65 ≤ c) = b3) (e4 : decide (c ≤ 90) = b4) (e5 : decide (48 ≤ c) = b5) (e6 : decide (c ≤ 57) = b6)
    (hp : (b1, b2, b3, b4, b5, b6) ∈ [(false, true, false, true, true, true), (false, true, true, true, true, false), (true, true, true, false, true, false)]) :
    Calls Try.prog 62 #[.int .i64 c] w fun e w' => e = .returned (.bool (plainB c)) ∧ w' = w := by
  have hpl : plainB c = true := by
    unfold plainB
    simp only [List.mem_cons, Prod.mk.injEq, List.not_mem_nil, or_false] at hp
    rw [e1, e2, e3, e4, e5, e6]
    rcases hp with ⟨rfl, rfl, rfl, rfl, rfl, rfl⟩ | ⟨rfl, rfl, rfl, rfl, rfl, rfl⟩ | ⟨rfl, rfl, rfl, rfl, rfl, rfl⟩ <;> rfl
  have Hpl := hid hpl
  clear hpl
  simp only [List.mem_cons, Prod.mk.injEq, List.not_mem_nil, or_false] at hp
  rcases hp with ⟨rfl, rfl, rfl, rfl, rfl, rfl⟩ | ⟨rfl, rfl, rfl, rfl, rfl, rfl⟩ | ⟨rfl, rfl, rfl, rfl, rfl, rfl⟩
  all_goals
    go_enter Try.func62, Try.ntmps62
    go_wp2
    go_ret
    exact ⟨by rw [Hpl.out]; rfl, rfl⟩
theorem plain04_c (c : Int) (w : World) : Calls Try.prog 62 #[.int .i64 c] w fun e w' => e = .returned (.bool (plainB c)) ∧ w' = w := by
  by_cases h0 : c < 48
  · exact plain04_no c w false true false true false true (decide_eq_false (by omega)) (decide_eq_true (by omega)) (decide_eq_false (by omega)) (decide_eq_true (by omega)) (decide_eq_false (by omega)) (decide_eq_true (by omega)) (by simp)
  by_cases h1 : c < 58
  · exact plain04_yes c w false true false true true true (decide_eq_false (by omega)) (decide_eq_true (by omega)) (decide_eq_false (by omega)) (decide_eq_true (by omega)) (decide_eq_true (by omega)) (decide_eq_true (by omega)) (by simp)
  by_cases h2 : c < 65
  · exact plain04_no c w false true false true true false (decide_eq_false (by omega)) (decide_eq_true (by omega)) (decide_eq_false (by omega)) (decide_eq_true (by omega)) (decide_eq_true (by omega)) (decide_eq_false (by omega)) (by simp)
  by_cases h3 : c < 91
  · exact plain04_yes c w false true true true true false (decide_eq_false (by omega)) (decide_eq_true (by omega)) (decide_eq_true (by omega)) (decide_eq_true (by omega)) (decide_eq_true (by omega)) (decide_eq_false (by omega)) (by simp)
  by_cases h4 : c < 97
  · exact plain04_no c w false true true false true false (decide_eq_false (by omega)) (decide_eq_true (by omega)) (decide_eq_true (by omega)) (decide_eq_false (by omega)) (decide_eq_true (by omega)) (decide_eq_false (by omega)) (by simp)
  by_cases h5 : c < 123
  · exact plain04_yes c w true true true false true false (decide_eq_true (by omega)) (decide_eq_true (by omega)) (decide_eq_true (by omega)) (decide_eq_false (by omega)) (decide_eq_true (by omega)) (decide_eq_false (by omega)) (by simp)
  exact plain04_no c w true false true false true false (decide_eq_true (by omega)) (decide_eq_false (by omega)) (decide_eq_true (by omega)) (decide_eq_false (by omega)) (decide_eq_true (by omega)) (decide_eq_false (by omega)) (by simp)
end Go.Proofs.Ytcphepjfnnbonaa
