/- Plain laws of the expression reader: it goes forward, stays in the text, and always ends. -/
import Derived.Test.YtldmdlkjpdfonaaRxW9
namespace Go.Proofs.Ytldmdlkjpdfonaa
set_option linter.unusedVariables false
set_option linter.unusedSimpArgs false
open Go

/-- Ends, goes forward by at least d, stays in the text. -/
def Goes {α : Type} (s : ByteArray) (i d : Nat) (r : R α) : Prop := r ≠ .out ∧ ∀ a j, r = .ok a j → i + d ≤ j ∧ j ≤ s.size
theorem Goes.bad {α : Type} {s : ByteArray} {i d k : Nat} : Goes s i d (R.bad k : R α) := ⟨by simp, fun a j h => by cases h⟩
theorem Goes.ok {α : Type} {s : ByteArray} {i d j : Nat} {a : α} (h1 : i + d ≤ j) (h2 : j ≤ s.size) : Goes s i d (R.ok a j) := ⟨by simp, fun a' j' h => by injection h with _ h; omega⟩
theorem Goes.bind {α β : Type} {s : ByteArray} {i d e : Nat} {r : R α} {f : α → Nat → R β} (h : Goes s i d r) (hf : ∀ a j, r = .ok a j → i + d ≤ j → j ≤ s.size → Goes s i e (f a j)) : Goes s i e (r.bind f) := by
  cases r with
  | out => exact absurd rfl h.1
  | bad k => exact .bad
  | ok a j => have := h.2 a j rfl; exact hf a j rfl this.1 this.2
theorem Goes.weaken {α : Type} {s : ByteArray} {i i' d d' : Nat} {r : R α} (h : Goes s i d r) (hh : i' + d' ≤ i + d) : Goes s i' d' r := ⟨h.1, fun a j e => by have := h.2 a j e; omega⟩
def SubGoes (s : ByteArray) : Option (Nat → R Nd) → Prop
  | none => True
  | some alt => ∀ i, i ≤ s.size → Goes s i 0 (alt i)
section
variable {s : ByteArray} {sub : Option (Nat → R Nd)}
theorem must_goes (c : Int) (hc : 0 ≤ c) (i : Nat) : Goes s i 1 (Rx.must s c i) := ⟨must_ne _ _ _, fun a j h => by
  obtain ⟨h1, h2⟩ := must_ok h
  have := nx_nonneg (s := s) (i := i) (by omega)
  omega⟩
theorem one_goes (i : Nat) : Goes s i 1 (Rx.one s i) := ⟨one_ne _ _, fun a j h => by have := one_gt h; omega⟩
theorem classLoop_goes : ∀ (k i a : Nat), s.size + 1 ≤ k + i → i ≤ s.size → Goes s i 1 (Rx.classLoop s k i a) ∨ ∃ a', Rx.classLoop s k i a = .ok a' i ∧ nx s i = 93
  | 0, i, a, h, h' => by omega
  | k + 1, i, a, h, h' => by
    unfold Rx.classLoop
    split
    · rename_i hx; exact .inr ⟨a, rfl, hx⟩
    · refine .inl ?_
      refine Goes.bind (d := 1) ⟨span_ne _ _, fun a j h => by have := span_gt h; omega⟩ (fun b j hb h1 h2 => ?_)
      rcases classLoop_goes k j (orS a b) (by omega) h2 with h | ⟨a', h, _⟩
      · exact h.weaken (by omega)
      · rw [h]; exact .ok h1 h2
theorem classLoop_end : ∀ (k i a : Nat) (a' j : Nat), Rx.classLoop s k i a = .ok a' j → nx s j = 93
  | 0, i, a, a', j, h => by cases h
  | k + 1, i, a, a', j, h => by
    unfold Rx.classLoop at h
    split at h
    · rename_i hx; injection h with _ h; subst h; exact hx
    · cases hs : Rx.span s i with
      | out => rw [hs] at h; cases h
      | bad => rw [hs] at h; cases h
      | ok b j' => rw [hs] at h; exact classLoop_end k j' _ a' j h
theorem cls_goes (i : Nat) (hi : i ≤ s.size) : Goes s i 1 (Rx.cls s i) := by
  unfold Rx.cls
  have h : (if nx s i = 94 then i + 1 else i) ≤ s.size ∧ i ≤ (if nx s i = 94 then i + 1 else i) := by
    split
    · have := nx_nonneg (s := s) (i := i) (by omega); omega
    · omega
  have hl : Goes s i 0 (Rx.classLoop s (s.size + 1) (if nx s i = 94 then i + 1 else i) 0) := by
    rcases classLoop_goes (s := s) (s.size + 1) (if nx s i = 94 then i + 1 else i) 0 (by omega) h.1 with h' | ⟨a', h', _⟩
    · exact h'.weaken (by omega)
    · rw [h']; exact .ok (by omega) h.1
  refine Goes.bind hl (fun a j ha h1 h2 => ?_)
  have := nx_nonneg (s := s) (i := j) (by rw [classLoop_end _ _ _ _ _ ha]; omega)
  exact .ok (by omega) (by omega)
theorem atom_goes (hsub : SubGoes s sub) (i : Nat) (hi : i ≤ s.size) : Goes s i 1 (Rx.atom s sub i) := by
  unfold Rx.atom
  split
  · rename_i hx
    have hlt := nx_nonneg (s := s) (i := i) (by omega)
    cases sub with
    | none => exact .bad
    | some alt =>
      refine Goes.bind (hsub (i + 1) (by omega) |>.weaken (i' := i) (d' := 1) (by omega)) (fun n j hn h1 h2 => ?_)
      refine Goes.bind (must_goes 41 (by omega) j |>.weaken (i' := i) (d' := 1) (by omega)) (fun u k hu h3 h4 => ?_)
      exact .ok (by omega) h4
  split
  · have hlt := nx_nonneg (s := s) (i := i) (by omega)
    exact .ok (by omega) (by omega)
  split
  · have hlt := nx_nonneg (s := s) (i := i) (by omega)
    refine Goes.bind (cls_goes (i + 1) (by omega) |>.weaken (i' := i) (d' := 1) (by omega)) (fun a j ha h1 h2 => .ok (by omega) h2)
  · refine Goes.bind (one_goes i) (fun a j ha h1 h2 => .ok h1 h2)
theorem item_goes (hsub : SubGoes s sub) (i : Nat) (hi : i ≤ s.size) : Goes s i 1 (Rx.item s sub i) := by
  unfold Rx.item
  refine Goes.bind (atom_goes hsub i hi) (fun a j ha h1 h2 => ?_)
  have hs : ∀ c : Int, 0 ≤ c → nx s j = c → j + 1 ≤ s.size := fun c hc h => nx_nonneg (by omega)
  split
  · exact .ok (by omega) (hs 42 (by omega) (by assumption))
  split
  · exact .ok (by omega) (hs 43 (by omega) (by assumption))
  split
  · exact .ok (by omega) (hs 63 (by omega) (by assumption))
  split
  · refine Goes.bind (d := 1) (i := i) ⟨bounds_ne _ _, fun a k h => ?_⟩ (fun p k hp h3 h4 => .ok h3 h4)
    have := bounds_bd h
    omega
  · exact .ok (by omega) h2
theorem catLoop_goes (hsub : SubGoes s sub) : ∀ (k i : Nat) (l : List Nd), s.size + 1 ≤ k + i → i ≤ s.size → Goes s i 0 (Rx.catLoop s sub k i l)
  | 0, i, l, h, h' => by omega
  | k + 1, i, l, h, h' => by
    unfold Rx.catLoop
    split
    · exact .ok (by omega) h'
    · refine Goes.bind (item_goes hsub i h') (fun n j hn h1 h2 => ?_)
      exact (catLoop_goes hsub k j _ (by omega) h2).weaken (by omega)
theorem cat_goes (hsub : SubGoes s sub) (i : Nat) (hi : i ≤ s.size) : Goes s i 0 (Rx.cat s sub i) := by
  unfold Rx.cat
  exact Goes.bind (catLoop_goes hsub _ i [] (by omega) hi) (fun l j hl h1 h2 => .ok h1 h2)
theorem altLoop_goes (hsub : SubGoes s sub) : ∀ (k i : Nat) (l : List Nd), s.size + 1 ≤ k + i → i ≤ s.size → Goes s i 0 (Rx.altLoop s sub k i l)
  | 0, i, l, h, h' => by omega
  | k + 1, i, l, h, h' => by
    unfold Rx.altLoop
    split
    · have hlt := nx_nonneg (s := s) (i := i) (by omega)
      refine Goes.bind (cat_goes hsub (i + 1) (by omega) |>.weaken (i' := i) (d' := 1) (by omega)) (fun n j hn h1 h2 => ?_)
      exact (altLoop_goes hsub k j _ (by omega) h2).weaken (by omega)
    · exact .ok (by omega) h'
theorem altF_goes (hsub : SubGoes s sub) (i : Nat) (hi : i ≤ s.size) : Goes s i 0 (Rx.altF s sub i) := by
  unfold Rx.altF
  refine Goes.bind (cat_goes hsub i hi) (fun n j hn h1 h2 => ?_)
  exact Goes.bind ((altLoop_goes hsub _ j [n] (by omega) h2).weaken (i' := i) (d' := 0) (by omega)) (fun l k hl h3 h4 => .ok h3 h4)
end
theorem alt_goes (s : ByteArray) : ∀ (d i : Nat), i ≤ s.size → Goes s i 0 (Rx.alt s d i)
  | 0, i, hi => by unfold Rx.alt; exact altF_goes (sub := none) trivial i hi
  | d + 1, i, hi => by unfold Rx.alt; exact altF_goes (sub := some (Rx.alt s d)) (fun j hj => alt_goes s d j hj) i hi
end Go.Proofs.Ytldmdlkjpdfonaa
