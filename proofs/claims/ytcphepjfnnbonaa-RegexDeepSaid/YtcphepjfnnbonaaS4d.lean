/- The walks of sieveref07.in, hex: where a number stands in a string. No condition. -/
import Derived.Test.YtcphepjfnnbonaaS4c
namespace Go.Proofs.Ytcphepjfnnbonaa
set_option linter.unusedVariables false
set_option linter.unusedSimpArgs false
open Go Go.RowKit

def inB (l : ByteArray) (c : Int) : Bool := l.data.toList.any fun x => (x.toNat : Int) == c
theorem any_drop (l : ByteArray) (c : Int) (j : Nat) (h : j < l.size) : (l.data.toList.drop j).any (fun x => (x.toNat : Int) == c) = ((l[j].toNat : Int) == c || (l.data.toList.drop (j + 1)).any fun x => (x.toNat : Int) == c) := by
  rw [List.drop_eq_getElem_cons (by simpa using h), List.any_cons]
  rfl
set_option maxHeartbeats 800000 in
theorem in_c (l : ByteArray) (c : Int) (w : World) (hl : l.size < 1099511627776) : Calls Try.prog 36 #[.string l, .int .i64 c] w fun e w' => e = .returned (.bool (inB l c)) ∧ w' = w := by
  go_enter Try.func36, Try.ntmps36
  go_wp2
  go_loopg [5] l.size (fun g i wr => ∃ j : Nat, j + g = l.size ∧ i = .int .i64 j ∧ Aside (inB l c = (l.data.toList.drop j).any fun x => (x.toNat : Int) == c) ∧ wr = w)
  case atStart => exact ⟨0, by omega, rfl, hid rfl, rfl⟩
  case round =>
    obtain ⟨j, hj, rfl, HA, rfl⟩ := hrel
    cases gk with
    | zero =>
      have hd : decide (j < l.size) = false := decide_eq_false (by omega)
      have hge : l.size ≤ j := by omega
      have he : inB l c = false := by
        have h1 : inB l c = _ := HA.out
        rw [List.drop_eq_nil_of_le (by simpa using hge)] at h1
        exact h1
      have He := hid he
      clear he hj HA
      go_wp2
      go_ret
      exact ⟨by rw [He.out]; rfl, rfl⟩
    | succ g =>
      have hd : decide (j < l.size) = true := decide_eq_true (by omega)
      have hlt : j < l.size := by omega
      have hb := l[j].toNat_lt
      have h2 := any_drop l c j hlt
      rw [← HA.out] at h2
      have H2 := hid h2
      have Hj := hid hj
      clear h2 HA hj
      cases hx : ((l[j].toNat : Int) == c) with
      | true =>
        rw [hx] at H2
        go_wp2
        go_ret
        exact ⟨by rw [H2.out]; rfl, rfl⟩
      | false =>
        rw [hx] at H2
        go_wp2
        go_roundg g
        case measure => omega
        case rel =>
          have hj1 : j + 1 + g = l.size := by have := Hj.out; omega
          exact ⟨j + 1, hj1, by simp, hid (by rw [H2.out]; rfl), rfl⟩
end Go.Proofs.Ytcphepjfnnbonaa
