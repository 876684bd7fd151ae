/- The walk of sieveref14.Accept. -/
import Derived.Test.YtldmdlkjpdfonaaCl3
namespace Go.Proofs.Ytldmdlkjpdfonaa
set_option linter.unusedVariables false
set_option linter.unusedSimpArgs false
open Go Go.RowKit

/-- The least rule so far. -/
def AccI (L : List NS) (f : Nat → Bool) (i : Nat) (r : Int) : Prop :=
  (r = -1 ∧ ∀ p x, p < i → L[p]? = some x → f p = true → x.acc < 0) ∨ (0 ≤ r ∧ (∃ p x, L[p]? = some x ∧ f p = true ∧ x.acc = r) ∧ ∀ p x, p < i → L[p]? = some x → f p = true → 0 ≤ x.acc → r ≤ x.acc)
theorem AccI.skip {L : List NS} {f : Nat → Bool} {i : Nat} {r : Int} {x : NS} (h : AccI L f i r) (hx : L[i]? = some x) (hn : f i = false ∨ x.acc < 0 ∨ (0 ≤ r ∧ r ≤ x.acc)) : AccI L f (i + 1) r := by
  rcases h with ⟨h1, h2⟩ | ⟨h1, h2, h3⟩
  · refine .inl ⟨h1, fun p y hp hy hf => ?_⟩
    rcases Nat.lt_or_ge p i with h5 | h5
    · exact h2 p y h5 hy hf
    · obtain rfl : p = i := by omega
      rw [hx] at hy; injection hy with hy; subst hy
      rcases hn with hn | hn | hn
      · rw [hn] at hf; cases hf
      · exact hn
      · omega
  · refine .inr ⟨h1, h2, fun p y hp hy hf ha => ?_⟩
    rcases Nat.lt_or_ge p i with h5 | h5
    · exact h3 p y h5 hy hf ha
    · obtain rfl : p = i := by omega
      rw [hx] at hy; injection hy with hy; subst hy
      rcases hn with hn | hn | hn
      · rw [hn] at hf; cases hf
      · omega
      · exact hn.2
theorem AccI.take {L : List NS} {f : Nat → Bool} {i : Nat} {r : Int} {x : NS} (h : AccI L f i r) (hx : L[i]? = some x) (h1 : f i = true) (h2 : 0 ≤ x.acc) (h3 : r < 0 ∨ x.acc < r) : AccI L f (i + 1) x.acc := by
  refine .inr ⟨h2, ⟨i, x, hx, h1, rfl⟩, fun p y hp hy hf ha => ?_⟩
  rcases Nat.lt_or_ge p i with h5 | h5
  · rcases h with ⟨g1, g2⟩ | ⟨g1, g2, g3⟩
    · have := g2 p y h5 hy hf; omega
    · have := g3 p y h5 hy hf ha; omega
  · obtain rfl : p = i := by omega
    rw [hx] at hy; injection hy with hy; subst hy
    omega
set_option maxRecDepth 100000 in
set_option maxHeartbeats 16000000 in
theorem accept_c (L : List NS) (e : TypeId) (A : Option Addr) (cap : Nat) (S : Nat → Prop) (A2 : Option Addr) (cap2 : Nat) (f : Nat → Bool) (w : World) (hL : Rep w S (.slice A L.length cap) (.sl e L.length (encSs L)))
    (hin : BoolsIn w S (.slice A2 L.length cap2) L.length f) (hpos : 0 < L.length) (hb : L.length < 4294967296) :
    Calls Try.prog 22 #[.slice A L.length cap, .slice A2 L.length cap2] w fun r w' => (∃ z : Int, r = .returned (.int .i64 z) ∧ AccOf L f z) ∧ w' = w := by
  obtain ⟨b2, off2, rfl, hS2, hr2⟩ := bools_cells hin hpos
  go_enter Try.func22, Try.ntmps22
  go_wp2_with fail
  go_loopg [5, 6] L.length (fun g t i wr => ∃ (j : Nat) (z : Int), j + g = L.length ∧ i = .int .i64 j ∧ t = .int .i64 z ∧ AccI L f j z ∧ wr = w)
  case atStart => exact ⟨0, -1, by omega, rfl, rfl, .inl ⟨rfl, fun p _ h => by omega⟩, rfl⟩
  case round =>
    obtain ⟨j, z, hj, rfl, rfl, hA, hwr⟩ := hrel
    replace hwr := hwr.symm
    subst hwr
    cases gk with
    | zero =>
      have hd1 : decide (j < L.length) = false := decide_eq_false (by omega)
      obtain rfl : j = L.length := by omega
      have hfin : AccOf L f z := by
        rcases hA with ⟨h1, h2⟩ | ⟨h1, h2, h3⟩
        · exact .inl ⟨h1, fun p x hx => h2 p x (List.getElem?_eq_some_iff.1 hx).1 hx⟩
        · exact .inr ⟨h1, h2, fun p x hx => h3 p x (List.getElem?_eq_some_iff.1 hx).1 hx⟩
      go_wp2_with fail
      go_ret
      exact ⟨⟨z, rfl, hfin⟩, rfl⟩
    | succ g =>
      obtain ⟨x, hxj⟩ : ∃ x, L[j]? = some x := ⟨_, List.getElem?_eq_getElem (by omega)⟩
      have hjl : j < L.length := by omega
      have hd1 : decide (j < L.length) = true := decide_eq_true hjl
      have hjL : (j : Int) < (L.length : Int) := by omega
      obtain ⟨b, off, A', cap', rfl, hSb, hltb, hrng, hrep'⟩ := states_at hL hxj
      rw [Nat.mul_comm 7 j] at hrng
      have hac := st_acc hrng
      generalize hpa : off + j * 7 = pa at *
      have hci : w.cell? ⟨b2, off2 + j, none⟩ = some (.bool (f j)) := hr2 j _ (rowV_get _ hjl)
      have Hj := hid hj
      have Hxj := hid hxj
      clear hj hxj hrng hrep'
      by_cases hfj : f j = false
      · rw [hfj] at hci
        go_wp2_with fail
        go_roundg g
        case measure => omega
        case rel => exact ⟨j + 1, z, by have := Hj.out; omega, (by first | rfl | exact wrap_succ (by omega)), rfl, hA.skip Hxj.out (.inl hfj), rfl⟩
      · have hfj' : f j = true := by simpa using hfj
        rw [hfj'] at hci
        by_cases hneg : x.acc < 0
        · have hd2 : decide (0 ≤ x.acc) = false := decide_eq_false (by omega)
          go_wp2_with fail
          go_roundg g
          case measure => omega
          case rel => exact ⟨j + 1, z, by have := Hj.out; omega, (by first | rfl | exact wrap_succ (by omega)), rfl, hA.skip Hxj.out (.inr (.inl hneg)), rfl⟩
        · have hd2 : decide (0 ≤ x.acc) = true := decide_eq_true (by omega)
          by_cases hz : z < 0
          · have hd3 : decide (z < 0) = true := decide_eq_true hz
            go_wp2_with fail
            go_roundg g
            case measure => omega
            case rel => exact ⟨j + 1, x.acc, by have := Hj.out; omega, (by first | rfl | exact wrap_succ (by omega)), rfl, hA.take Hxj.out hfj' (by omega) (.inl hz), rfl⟩
          · have hd3 : decide (z < 0) = false := decide_eq_false hz
            by_cases hlt : x.acc < z
            · have hd4 : decide (x.acc < z) = true := decide_eq_true hlt
              go_wp2_with fail
              go_roundg g
              case measure => omega
              case rel => exact ⟨j + 1, x.acc, by have := Hj.out; omega, (by first | rfl | exact wrap_succ (by omega)), rfl, hA.take Hxj.out hfj' (by omega) (.inr hlt), rfl⟩
            · have hd4 : decide (x.acc < z) = false := decide_eq_false hlt
              go_wp2_with fail
              go_roundg g
              case measure => omega
              case rel => exact ⟨j + 1, z, by have := Hj.out; omega, (by first | rfl | exact wrap_succ (by omega)), rfl, hA.skip Hxj.out (.inr (.inr ⟨by omega, by omega⟩)), rfl⟩
end Go.Proofs.Ytldmdlkjpdfonaa
