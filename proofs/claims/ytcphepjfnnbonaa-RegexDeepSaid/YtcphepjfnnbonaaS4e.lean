/- The walks of sieveref07.hex, sieveref04.plain. No condition. -/
import Derived.Test.YtcphepjfnnbonaaS4d
import Derived.Test.YtcphepjfnnbonaaRxW2
namespace Go.Proofs.Ytcphepjfnnbonaa
set_option linter.unusedVariables false
set_option linter.unusedSimpArgs false
open Go Go.RowKit

theorem ixOf_any (l : List Nat) (c : Int) : decide (0 ≤ ixOf l c) = l.any fun x => (x : Int) == c := by
  unfold ixOf
  cases h : l.findIdx? (fun (x : Nat) => (x : Int) == c) with
  | none =>
    rw [List.findIdx?_eq_none_iff] at h
    have : (l.any fun x => (x : Int) == c) = false := by
      rw [List.any_eq_false]
      intro x hx
      simpa using h x hx
    rw [this]
    rfl
  | some i =>
    obtain ⟨h1, h2, _⟩ := List.findIdx?_eq_some_iff_getElem.1 h
    have : (l.any fun x => (x : Int) == c) = true := List.any_eq_true.2 ⟨_, List.getElem_mem h1, h2⟩
    rw [this]
    simp
theorem inB_ix (l : ByteArray) (nums : List Nat) (h : l.data.toList.map (·.toNat) = nums) (c : Int) : inB l c = decide (0 ≤ ixOf nums c) := by
  rw [ixOf_any, ← h, List.any_map]
  rfl
theorem ixOf_at {l : List Nat} {c : Int} {j : Nat} (hj : j < l.length) (h : ((l[j] : Nat) : Int) = c) (hn : ∀ i, i < j → ∀ x, l[i]? = some x → (x : Int) ≠ c) : ixOf l c = j := by
  unfold ixOf
  have : l.findIdx? (fun (x : Nat) => (x : Int) == c) = some j := by
    rw [List.findIdx?_eq_some_iff_getElem]
    refine ⟨hj, by simpa using h, fun i hi => ?_⟩
    have := hn i hi _ (List.getElem?_eq_getElem (by omega))
    simpa using this
  rw [this]
theorem ixOf_none {l : List Nat} {c : Int} (hn : ∀ (i x : Nat), l[i]? = some x → (x : Int) ≠ c) : ixOf l c = -1 := by
  unfold ixOf
  have : l.findIdx? (fun (x : Nat) => (x : Int) == c) = none := by
    rw [List.findIdx?_eq_none_iff]
    intro x hx
    obtain ⟨i, hi⟩ := List.mem_iff_getElem?.1 hx
    simpa using hn i x hi
  rw [this]
theorem hex_at (j : Nat) (h : j < 16) : ((⟨#[48, 49, 50, 51, 52, 53, 54, 55, 56, 57, 97, 98, 99, 100, 101, 102]⟩ : ByteArray)[j]'h).toNat = hexes[j]'h := by
  have : ∀ j : Fin 16, ((⟨#[48, 49, 50, 51, 52, 53, 54, 55, 56, 57, 97, 98, 99, 100, 101, 102]⟩ : ByteArray)[j.1]'j.2).toNat = hexes[j.1]'j.2 := by decide
  exact this ⟨j, h⟩
set_option maxHeartbeats 800000 in
theorem hex_c (c : Int) (w : World) : Calls Try.prog 60 #[.int .i64 c] w fun e w' => e = .returned (.int .i64 (ixOf hexes c)) ∧ w' = w := by
  go_enter Try.func60, Try.ntmps60
  go_wp2
  go_loopg [4] 16 (fun g i wr => ∃ j : Nat, j + g = 16 ∧ i = .int .i64 j ∧ Aside (∀ i, i < j → ∀ x, hexes[i]? = some x → (x : Int) ≠ c) ∧ wr = w)
  case atStart => exact ⟨0, by omega, rfl, hid (fun i hi => by omega), rfl⟩
  case round =>
    obtain ⟨j, hj, rfl, HA, rfl⟩ := hrel
    cases gk with
    | zero =>
      obtain rfl : j = 16 := by omega
      have he : ixOf hexes c = -1 := ixOf_none fun i x hx => HA.out i ((List.getElem?_eq_some_iff.1 hx).1) x hx
      have He := hid he
      clear he hj HA
      go_wp2
      go_ret
      exact ⟨by rw [He.out]; rfl, rfl⟩
    | succ g =>
      have hlt : j < 16 := by omega
      have hd : decide (j < 16) = true := decide_eq_true hlt
      have hat := hex_at j hlt
      have hb : ((⟨#[48, 49, 50, 51, 52, 53, 54, 55, 56, 57, 97, 98, 99, 100, 101, 102]⟩ : ByteArray)[j]'hlt).toNat < 2 ^ 8 := UInt8.toNat_lt _
      have hj0 : (0 : Int) ≤ (j : Int) := by omega
      have hj16 : (j : Int) < 16 := by omega
      have Hj := hid hj
      clear hj
      cases hx : (((hexes[j]'hlt : Nat) : Int) == c) with
      | true =>
        have he : ixOf hexes c = j := ixOf_at hlt (by simpa using hx) HA.out
        have He := hid he
        clear he HA
        rw [← hat] at hx
        clear hat
        go_wp2
        go_ret
        exact ⟨by rw [He.out]; rfl, rfl⟩
      | false =>
        have hn : ∀ i, i < j + 1 → ∀ x, hexes[i]? = some x → (x : Int) ≠ c := fun i hi x h => by
          rcases Nat.lt_or_ge i j with h1 | h1
          · exact HA.out i h1 x h
          · obtain rfl : i = j := by omega
            rw [List.getElem?_eq_getElem hlt] at h
            injection h with h
            rw [← h]
            simpa using hx
        have Hn := hid hn
        clear HA hn
        rw [← hat] at hx
        clear hat
        go_wp2
        go_roundg g
        case measure => omega
        case rel =>
          have hj1 : j + 1 + g = 16 := by have := Hj.out; omega
          exact ⟨j + 1, hj1, by simp, hid Hn.out, rfl⟩
end Go.Proofs.Ytcphepjfnnbonaa
