/- Rows of values told by a function; how many states accept a rule. No program in sight. -/
import Derived.Test.YtldmdlkjpdfonaaNe
import Derived.OwnWalk
namespace Go.Proofs.Ytldmdlkjpdfonaa
set_option linter.unusedVariables false
set_option linter.unusedSimpArgs false
open Go Go.RowKit

def rowV (n : Nat) (g : Nat → Value) : List Value := (List.range n).map g
theorem rowV_len (n : Nat) (g : Nat → Value) : (rowV n g).length = n := by simp [rowV]
theorem rowV_get {n i : Nat} (g : Nat → Value) (h : i < n) : (rowV n g)[i]? = some (g i) := by simp [rowV, h]
theorem rowV_set {n q : Nat} (g : Nat → Value) (v : Value) : (rowV n g).set q v = rowV n (fun i => if i = q then v else g i) := by
  apply List.ext_getElem?
  intro i
  rcases Nat.lt_or_ge i n with h | h
  · rw [rowV_get _ h, List.getElem?_set]
    by_cases hq : q = i
    · subst hq
      rw [if_pos rfl, rowV_len, if_pos h, if_pos rfl]
    · rw [if_neg hq, rowV_get _ h, if_neg (Ne.symm hq)]
  · rw [List.getElem?_eq_none (by simp [rowV_len]; omega), List.getElem?_eq_none (by simp [rowV_len]; omega)]
theorem rowV_rep (n : Nat) (v : Value) : List.replicate n v = rowV n (fun _ => v) := by
  apply List.ext_getElem?
  intro i
  rcases Nat.lt_or_ge i n with h | h
  · rw [rowV_get _ h, List.getElem?_replicate, if_pos h]
  · rw [List.getElem?_eq_none (by simp; omega), List.getElem?_eq_none (by simp [rowV_len]; omega)]
theorem rowV_congr {n : Nat} {g g' : Nat → Value} (h : ∀ i, i < n → g i = g' i) : rowV n g = rowV n g' := by
  unfold rowV
  exact List.map_congr_left fun i hi => h i (List.mem_range.1 hi)
/-- How many states accept a rule. -/
def cntA : List NS → Nat → Nat
  | [], _ => 0
  | x :: L, k => (if x.acc = (k : Int) then 1 else 0) + cntA L k
theorem cntA_append : ∀ (L M : List NS) (k : Nat), cntA (L ++ M) k = cntA L k + cntA M k
  | [], M, k => by simp [cntA]
  | x :: L, M, k => by simp only [List.cons_append, cntA, cntA_append L M k]; omega
theorem cntA_take {L : List NS} {j : Nat} {x : NS} (h : L[j]? = some x) (k : Nat) : cntA (L.take (j + 1)) k = cntA (L.take j) k + if x.acc = (k : Int) then 1 else 0 := by
  rw [List.take_add_one, h, cntA_append]
  simp [cntA]
theorem cntA_le : ∀ (L : List NS) (k : Nat), cntA L k ≤ L.length
  | [], _ => Nat.le_refl _
  | x :: L, k => by simp only [cntA, List.length_cons]; have := cntA_le L k; split <;> omega
theorem cntA_none {L : List NS} {k : Nat} (h : ∀ x ∈ L, x.acc = -1) : cntA L k = 0 := by
  induction L with
  | nil => rfl
  | cons x L ih =>
    simp only [cntA]
    rw [ih fun y hy => h y (List.mem_cons_of_mem _ hy), if_neg (by have := h x List.mem_cons_self; omega)]
theorem cntA_rules {M c i j : Nat} {L : List NS} (h : Rules M c i j L) (k : Nat) : cntA L k = if i ≤ k ∧ k < j then 1 else 0 := by
  induction h with
  | nil i => rw [if_neg (by omega)]; rfl
  | @rule i j more rest h r ih =>
    have hij := r.le
    rw [List.cons_append, cntA, cntA_append, cntA_none fun x hx => (h x hx).1, ih]
    show (if ((i : Int) = (k : Int)) then 1 else 0) + (0 + _) = _
    by_cases hk : i = k
    · subst hk
      rw [if_pos rfl, if_neg (by omega), if_pos (by omega)]
    · rw [if_neg (by omega)]
      by_cases h2 : i + 1 ≤ k ∧ k < j
      · rw [if_pos h2, if_pos (by omega)]
      · rw [if_neg h2, if_neg (by omega)]
theorem cntA_all (l : List Nd) (k : Nat) (hk : k < l.length) : cntA (nfaAll l) k = 1 := by
  obtain ⟨eps, more, h1, _, _, h4⟩ := nfaAll_good l
  have h5 : (over eps).acc = -1 := rfl
  rw [h1, cntA, cntA_rules h4, if_neg (by omega), if_pos (by omega)]
/-- Each state of an automaton of rules. -/
theorem nfaAll_each (l : List Nd) : ∀ x ∈ nfaAll l, ((∃ k : Nat, k < l.length ∧ x.acc = k ∧ x.to = -1 ∧ x.eps = []) ∨ (x.acc = -1 ∧ (x.to = -1 ∨ (0 ≤ x.to ∧ x.eps = [])))) ∧ -1 ≤ x.to ∧ x.to < (nfaAll l).length ∧ ∀ e ∈ x.eps, e < (nfaAll l).length := by
  obtain ⟨eps, more, h1, h2, h3, h4⟩ := nfaAll_good l
  have hpos : 0 < (nfaAll l).length := by rw [h1]; simp
  intro x hx
  rw [h1] at hx
  rcases List.mem_cons.1 hx with rfl | hx
  · exact ⟨.inr ⟨rfl, .inl rfl⟩, by show (-1 : Int) ≤ -1; omega, by show (-1 : Int) < _; omega, h3⟩
  · rcases h4.get x hx with ⟨k, _, hk, rfl⟩ | ⟨g1, g2, g3, g4⟩
    · exact ⟨.inl ⟨k, hk, rfl, rfl, rfl⟩, by show (-1 : Int) ≤ -1; omega, by show (-1 : Int) < _; omega, fun e he => by cases he⟩
    · rcases g2 with g2 | ⟨g2, g5, g6⟩
      · exact ⟨.inr ⟨g1, .inl g2⟩, by omega, by omega, g3⟩
      · exact ⟨.inr ⟨g1, .inr ⟨g2, g6⟩⟩, by omega, by omega, g3⟩
theorem nfaAll_first (l : List Nd) : ∃ x, (nfaAll l)[0]? = some x ∧ x.eps.length = l.length := by
  obtain ⟨eps, more, h1, h2, _⟩ := nfaAll_good l
  exact ⟨over eps, by rw [h1]; rfl, h2⟩
end Go.Proofs.Ytldmdlkjpdfonaa
