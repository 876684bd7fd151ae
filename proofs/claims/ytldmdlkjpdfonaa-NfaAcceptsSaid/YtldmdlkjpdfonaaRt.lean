/- The walk of sieveref14.Right, where all states are right. Condition: each state leads to states that there are. -/
import Derived.Test.YtldmdlkjpdfonaaNa5
import Derived.Test.YtldmdlkjpdfonaaNe
namespace Go.Proofs.Ytldmdlkjpdfonaa
set_option linter.unusedVariables false
set_option linter.unusedSimpArgs false
open Go Go.RowKit

/-- The i-th of some numbers. -/
theorem ints_at {w : World} {S : Nat → Prop} {A : Option Addr} {l : List Nat} {cap i e : Nat} (h : Rep w S (.slice A l.length cap) (.sl 3 l.length (encI l))) (hi : l[i]? = some e) :
    ∃ b off, A = some ⟨b, off, none⟩ ∧ S b ∧ b < w.heap.size ∧ w.cell? ⟨b, off + i, none⟩ = some (.int .i64 e) := by
  have hlt : i < l.length := (List.getElem?_eq_some_iff.1 hi).1
  obtain ⟨b, off, cs, rfl, hS, hlt', hr, hl, hreps⟩ := Rep.at_ h (o := i) (n := 1) (by decide) (by rw [encI_len]; omega)
  have hd : ((encI l).drop i).take 1 = [.v (.int .i64 (e : Int))] := by
    rw [List.take_one, List.head?_drop]
    simp [encI, hi]
  rw [hd] at hreps
  have := Reps.vs_inv (ys := [Value.int .i64 (e : Int)]) hreps
  subst this
  exact ⟨b, off, rfl, hS, hlt', hr 0 _ rfl⟩
/-- A state as it ought to be. -/
def RightS (M rules : Nat) (x : NS) : Prop := -1 ≤ x.to ∧ x.to < M ∧ -1 ≤ x.acc ∧ x.acc < rules ∧ ∀ e ∈ x.eps, e < M
set_option maxRecDepth 100000 in
set_option maxHeartbeats 8000000 in
theorem right_c (L : List NS) (e : TypeId) (rules : Nat) (A : Option Addr) (cap : Nat) (S : Nat → Prop) (w : World) (hL : Rep w S (.slice A L.length cap) (.sl e L.length (encSs L))) (hg : ∀ x ∈ L, RightS L.length rules x) (h0 : 0 < L.length) :
    Calls Try.prog 30 #[.slice A L.length cap, .int .i64 rules] w fun r w' => r = .returned (.bool true) ∧ w' = w := by
  have hcap : L.length ≤ cap ∧ cap ≤ maxLen := by
    obtain ⟨A2, c2, heq, h1, h2⟩ := hL.sl_inv
    injection heq with e1 e2 e3
    omega
  have hmx := maxLen_eq
  have Hg := hid hg
  have hL63 : L.length ≤ 9223372036854775807 := by omega
  clear hg
  go_enter Try.func30, Try.ntmps30
  go_wp2_with fail
  go_loopg [5] L.length (fun g i wr => ∃ j : Nat, j + g = L.length ∧ i = .int .i64 j ∧ wr = w)
  case atStart => exact ⟨0, by omega, rfl, rfl⟩
  case round =>
    obtain ⟨j, hj, rfl, hwr⟩ := hrel
    replace hwr := hwr.symm
    subst hwr
    cases gk with
    | zero =>
      have hd1 : decide (j < L.length) = false := decide_eq_false (by omega)
      have hd2 : decide (0 < L.length) = true := decide_eq_true h0
      have hd3 : (0 : Int) < (L.length : Int) := by omega
      go_wp2_with fail
      go_ret
      exact ⟨rfl, rfl⟩
    | succ g =>
      obtain ⟨x, hxj⟩ : ∃ x, L[j]? = some x := ⟨_, List.getElem?_eq_getElem (by omega)⟩
      have hd1 : decide (j < L.length) = true := decide_eq_true (by omega)
      have hjL : (j : Int) < (L.length : Int) := by omega
      obtain ⟨g1, g2, g3, g4, g5⟩ := Hg.out x (List.mem_of_getElem? hxj)
      have Hg5 := hid g5
      obtain ⟨b, off, A', cap', rfl, hSb, hltb, hrng, hrep'⟩ := states_at hL hxj
      rw [Nat.mul_comm 7 j] at hrng
      have hto := st_to hrng
      have hac := st_acc hrng
      have hep := st_eps hrng
      have t1 : decide (x.to < -1) = false := decide_eq_false (by omega)
      have t2 : decide ((L.length : Int) ≤ x.to) = false := decide_eq_false (by omega)
      have t3 : decide (x.acc < -1) = false := decide_eq_false (by omega)
      have t4 : decide ((rules : Int) ≤ x.acc) = false := decide_eq_false (by omega)
      have hcap' : x.eps.length ≤ cap' ∧ cap' ≤ maxLen := by
        obtain ⟨A2, c2, heq, h1, h2⟩ := hrep'.sl_inv
        injection heq with e1 e2 e3
        omega
      have hE63 : x.eps.length < 9223372036854775807 + 1 := by omega
      generalize hpa : off + j * 7 = pa at *
      have Hj := hid hj
      clear hxj hj g1 g2 g3 g4 g5 hrng hcap' hcap hmx
      go_wp2_with fail
      go_loopg [6] x.eps.length (fun g' k w2 => ∃ q : Nat, q + g' = x.eps.length ∧ k = .int .i64 q ∧ w2 = w)
      case atStart => exact ⟨0, by omega, rfl, rfl⟩
      case round =>
        obtain ⟨q, hq, rfl, hw2⟩ := hrel
        replace hw2 := hw2.symm
        subst hw2
        cases gk with
        | zero =>
          have hd4 : decide (q < x.eps.length) = false := decide_eq_false (by omega)
          have hd5 : x.eps.length ≤ q := by omega
          go_wp2_with fail
          go_roundg g
          case measure => omega
          case rel => exact ⟨j + 1, by have := Hj.out; omega, (by first | rfl | exact wrap_succ (by have := Hj.out; omega)), rfl⟩
        | succ g' =>
          obtain ⟨e', he'⟩ : ∃ e', x.eps[q]? = some e' := ⟨_, List.getElem?_eq_getElem (by omega)⟩
          have hlt := Hg5.out e' (List.mem_of_getElem? he')
          obtain ⟨b2, o2, rfl, hS2, hlt2, hc2⟩ := ints_at hrep' he'
          have hd4 : decide (q < x.eps.length) = true := decide_eq_true (by omega)
          have hqL : (q : Int) < (x.eps.length : Int) := by omega
          have t5 : decide ((L.length : Int) ≤ (e' : Int)) = false := decide_eq_false (by omega)
          have t6 : decide (L.length ≤ e') = false := decide_eq_false (by omega)
          have t7 : decide ((e' : Int) < 0) = false := decide_eq_false (by omega)
          have Hq := hid hq
          clear he' hq hlt
          go_wp2_with fail
          go_roundg g'
          case measure => omega
          case rel => exact ⟨q + 1, by have := Hq.out; omega, (by first | rfl | exact wrap_succ (by have := Hq.out; omega)), rfl⟩
end Go.Proofs.Ytldmdlkjpdfonaa
