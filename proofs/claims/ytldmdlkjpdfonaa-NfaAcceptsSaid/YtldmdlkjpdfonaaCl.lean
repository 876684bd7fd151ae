/- Plain: the states to which one goes over nothing, found pass by pass. No program in sight. -/
import Derived.Test.YtldmdlkjpdfonaaNfa7
import Derived.Test.YtldmdlkjpdfonaaRow
namespace Go.Proofs.Ytldmdlkjpdfonaa
set_option linter.unusedVariables false
set_option linter.unusedSimpArgs false

/-- How many are not in. -/
def cf (n : Nat) (f : Nat → Bool) : Nat := (List.range n).countP fun i => !f i
theorem cf_congr {n : Nat} {f f' : Nat → Bool} (h : ∀ q, q < n → f' q = f q) : cf n f' = cf n f := by
  unfold cf
  apply List.countP_congr
  intro q hq
  rw [h q (List.mem_range.1 hq)]
theorem cf_le (n : Nat) (f : Nat → Bool) : cf n f ≤ n := by
  unfold cf
  exact Nat.le_trans List.countP_le_length (by simp)
def setF (f : Nat → Bool) (e : Nat) : Nat → Bool := fun i => if i = e then true else f i
theorem cf_set {n : Nat} {f : Nat → Bool} {e : Nat} (he : e < n) (h : f e = false) : cf n (setF f e) + 1 ≤ cf n f := by
  unfold cf
  refine countP_lt (fun x _ hx => ?_) ⟨e, List.mem_range.2 he, by simp [h], by simp [setF]⟩
  unfold setF at hx
  split at hx
  · cases hx
  · exact hx
section
variable (L : List NS) (f0 : Nat → Bool)
/-- All were led to. -/
def Sd (f : Nat → Bool) : Prop := ∀ q, q < L.length → f q = true → ∃ p, p < L.length ∧ f0 p = true ∧ Star (Eps L) p q
def Bgn (f f' : Nat → Bool) : Prop := ∀ q, q < L.length → f q = true → f' q = true
/-- A pass, at state i and its k-th way. -/
def PassI (f : Nat → Bool) (i k : Nat) (f' : Nat → Bool) (ag : Bool) : Prop :=
  Bgn L f f' ∧ Sd L f0 f' ∧ (ag = false → (∀ q, q < L.length → f' q = f q) ∧ (∀ p x, p < i → L[p]? = some x → f p = true → ∀ e ∈ x.eps, f e = true) ∧ (∀ x, L[i]? = some x → f i = true → ∀ k' e, k' < k → x.eps[k']? = some e → f e = true)) ∧
    (ag = true → cf L.length f' + 1 ≤ cf L.length f)
variable {L f0}
theorem PassI.start {f : Nat → Bool} (h : Sd L f0 f) : PassI L f0 f 0 0 f false :=
  ⟨fun q _ h => h, h, fun _ => ⟨fun _ _ => rfl, fun p x hp => by omega, fun x _ _ k' e hk => by omega⟩, fun h => by cases h⟩
theorem PassI.cf_le {f f' : Nat → Bool} {i k : Nat} {ag : Bool} (h : PassI L f0 f i k f' ag) : cf L.length f' ≤ cf L.length f := by
  cases ag with
  | false => exact Nat.le_of_eq (cf_congr (h.2.2.1 rfl).1)
  | true => have := h.2.2.2 rfl; omega
theorem PassI.stay {f f' : Nat → Bool} {i k e : Nat} {x : NS} {ag : Bool} (h : PassI L f0 f i k f' ag) (hx : L[i]? = some x) (he : x.eps[k]? = some e) (hr : e < L.length) (hf : f' e = true) : PassI L f0 f i (k + 1) f' ag := by
  obtain ⟨h1, h2, h3, h4⟩ := h
  refine ⟨h1, h2, fun ha => ?_, h4⟩
  obtain ⟨a1, a2, a3⟩ := h3 ha
  refine ⟨a1, a2, fun y hy hi k' e' hk he' => ?_⟩
  rw [hx] at hy; injection hy with hy; subst hy
  rcases Nat.lt_or_ge k' k with h5 | h5
  · exact a3 x hx hi k' e' h5 he'
  · obtain rfl : k' = k := by omega
    rw [he] at he'; injection he' with he'; subst he'
    rw [← a1 e hr]; exact hf
theorem PassI.add {f f' : Nat → Bool} {i k e : Nat} {x : NS} {ag : Bool} (h : PassI L f0 f i k f' ag) (hx : L[i]? = some x) (he : x.eps[k]? = some e) (hr : e < L.length) (hi : f' i = true) (hf : f' e = false) : PassI L f0 f i (k + 1) (setF f' e) true := by
  have hc := h.cf_le
  obtain ⟨h1, h2, h3, h4⟩ := h
  have hil : i < L.length := (List.getElem?_eq_some_iff.1 hx).1
  refine ⟨fun q hq h => ?_, fun q hq h => ?_, fun h => (by cases h), fun _ => by have := cf_set hr hf; omega⟩
  · unfold setF; split
    · rfl
    · exact h1 q hq h
  · unfold setF at h
    by_cases hqe : q = e
    · subst hqe
      obtain ⟨p, hp, hp0, hs⟩ := h2 i hil hi
      exact ⟨p, hp, hp0, hs.snoc ⟨x, hx, List.mem_of_getElem? he⟩⟩
    · rw [if_neg hqe] at h
      exact h2 q hq h
/-- The next state. -/
theorem PassI.next {f f' : Nat → Bool} {i k : Nat} {ag : Bool} (h : PassI L f0 f i k f' ag) (hil : i < L.length) (hend : f' i = false ∨ ∀ x, L[i]? = some x → x.eps.length ≤ k) : PassI L f0 f (i + 1) 0 f' ag := by
  obtain ⟨h1, h2, h3, h4⟩ := h
  refine ⟨h1, h2, fun ha => ?_, h4⟩
  obtain ⟨a1, a2, a3⟩ := h3 ha
  refine ⟨a1, fun p x hp hx hfp e he => ?_, fun x _ _ k' e hk => by omega⟩
  rcases Nat.lt_or_ge p i with h5 | h5
  · exact a2 p x h5 hx hfp e he
  · obtain rfl : p = i := by omega
    rcases hend with h6 | h6
    · rw [a1 p hil] at h6; rw [h6] at hfp; cases hfp
    · obtain ⟨k', hk'⟩ := List.mem_iff_getElem?.1 he
      have := (List.getElem?_eq_some_iff.1 hk').1
      have := h6 x hx
      exact a3 x hx hfp k' e (by omega) hk'
/-- The states to which one goes over nothing. -/
def CloseOf (L : List NS) (f0 f : Nat → Bool) : Prop := ∀ q, q < L.length → (f q = true ↔ ∃ p, p < L.length ∧ f0 p = true ∧ Star (Eps L) p q)
theorem close_of {f : Nat → Bool} (hr : ∀ x ∈ L, ∀ e ∈ x.eps, e < L.length) (hb : Bgn L f0 f) (hs : Sd L f0 f) (hc : ∀ p x, L[p]? = some x → f p = true → ∀ e ∈ x.eps, f e = true) : CloseOf L f0 f := by
  intro q hq
  refine ⟨hs q hq, fun ⟨p, hp, hp0, hst⟩ => ?_⟩
  have key : ∀ p q, Star (Eps L) p q → f p = true → f q = true := by
    intro p q hst
    induction hst with
    | nil => exact fun h => h
    | step h _ ih =>
      obtain ⟨x, hx, he⟩ := h
      exact fun hf => ih (hc _ x hx hf _ he)
  exact key p q hst (hb p hp hp0)
/-- .. over a byte. -/
def MoveOf (L : List NS) (c : Nat) (f0 f : Nat → Bool) : Prop := ∀ t, t < L.length → (f t = true ↔ ∃ p x, L[p]? = some x ∧ f0 p = true ∧ x.to = (t : Int) ∧ x.set.testBit c = true)
/-- The least rule that is accepted; -1: none. -/
def AccOf (L : List NS) (f : Nat → Bool) (r : Int) : Prop :=
  (r = -1 ∧ ∀ p x, L[p]? = some x → f p = true → x.acc < 0) ∨ (0 ≤ r ∧ (∃ p x, L[p]? = some x ∧ f p = true ∧ x.acc = r) ∧ ∀ p x, L[p]? = some x → f p = true → 0 ≤ x.acc → r ≤ x.acc)
end
end Go.Proofs.Ytldmdlkjpdfonaa
