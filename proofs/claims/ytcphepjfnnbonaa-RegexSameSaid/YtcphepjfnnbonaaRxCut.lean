/- The plain law of RegexFirst: a text cut where the reader fails is read to its end, or fails there. No program in sight. -/
import Derived.Test.YtcphepjfnnbonaaRxP
namespace Go.Proofs.Ytcphepjfnnbonaa
set_option linter.unusedVariables false
set_option linter.unusedSimpArgs false

/-- t is s cut at n. -/
structure Cut (s t : ByteArray) (n : Nat) : Prop where
  size : t.size = n
  le : n ≤ s.size
  same : ∀ i, i < n → nx t i = nx s i
theorem Cut.off {s t : ByteArray} {n i : Nat} (C : Cut s t n) (h : n ≤ i) : nx t i = -1 := nx_out (by rw [C.size]; exact h)
/-- Read to the end n, or wrong there. -/
def Good {α : Type} (n : Nat) : R α → Prop
  | .ok _ j => j = n
  | .bad k => k = n
  | .out => False
/-- What is read ends, or is wrong, at i or behind it. -/
def From {α : Type} (i : Nat) : R α → Prop
  | .ok _ j => i ≤ j
  | .bad k => i ≤ k
  | .out => True
/-- r: what comes of the whole text, r': of the cut one. -/
structure CutR {α : Type} (n : Nat) (r r' : R α) : Prop where
  lt : ∀ a j, r = .ok a j → j < n → r' = .ok a j
  eq : ∀ a, r = .ok a n → Good n r'
  bad : r = .bad n → Good n r'
section
variable {α β : Type} {n i : Nat} {r r' : R α} {f f' : α → Nat → R β}
theorem From.weaken {i' : Nat} (h : From i r) (hi : i' ≤ i) : From i' r := by
  cases r with
  | ok a j => exact Nat.le_trans hi h
  | bad k => exact Nat.le_trans hi h
  | out => trivial
theorem From.bind (h : From i r) (hf : ∀ a j, r = .ok a j → i ≤ j → From i (f a j)) : From i (r.bind f) := by
  cases r with
  | ok a j => exact hf a j rfl h
  | bad k => exact h
  | out => trivial
theorem From.ite {c : Prop} [Decidable c] {x y : R α} (h1 : From i x) (h2 : From i y) : From i (if c then x else y) := by
  split <;> assumption
theorem CutR.good (h : From n r) (g : Good n r') : CutR n r r' := ⟨fun a j e hj => (by rw [e] at h; have h : n ≤ j := h; omega), fun _ _ => g, fun _ => g⟩
theorem CutR.far {m : Nat} (h : From m r) (hm : n < m) : CutR n r r' :=
  ⟨fun a j e hj => (by rw [e] at h; have h : m ≤ j := h; omega), fun a e => (by rw [e] at h; have h : m ≤ n := h; omega), fun e => (by rw [e] at h; have h : m ≤ n := h; omega)⟩
theorem CutR.ofBad {k : Nat} (h : k = n → Good n r') : CutR n (R.bad k) r' := ⟨fun _ _ e => (nomatch e), fun _ e => (nomatch e), fun e => h (by injection e)⟩
theorem CutR.ofOut : CutR n R.out r' := ⟨fun _ _ e => (nomatch e), fun _ e => (nomatch e), fun e => (nomatch e)⟩
theorem CutR.same (r : R α) : CutR n r r := ⟨fun _ _ e _ => e, fun a e => (by rw [e]; exact rfl), fun e => (by rw [e]; exact rfl)⟩
theorem Good.bind (h : Good n r') (hg : ∀ a, Good n (f' a n)) : Good n (r'.bind f') := by
  cases r' with
  | ok a j => have h : j = n := h; subst h; exact hg a
  | bad k => exact h
  | out => exact h
theorem CutR.bind (h : CutR n r r') (pg : ∀ a j, r = .ok a j → From j (f a j)) (hf : ∀ a j, r = .ok a j → j < n → CutR n (f a j) (f' a j)) (hg : ∀ a, Good n (f' a n)) : CutR n (r.bind f) (r'.bind f') := by
  cases r with
  | ok a j =>
    rcases Nat.lt_trichotomy j n with hj | hj | hj
    · rw [h.lt a j rfl hj]; exact hf a j rfl hj
    · subst hj
      exact .good (pg a j rfl) ((h.eq a rfl).bind hg)
    · exact .far (pg a j rfl) hj
  | bad k => exact .ofBad fun e => (h.bad (by rw [e])).bind hg
  | out => exact .ofOut
theorem CutR.at_ (hi : i ≤ n) (hpg : From i r) (hE : i = n → Good n r') (h : i < n → CutR n r r') : CutR n r r' := by
  rcases Nat.lt_or_ge i n with h1 | h1
  · exact h h1
  · have : i = n := by omega
    exact .good (hpg.weaken h1) (hE this)
theorem CutR.ite {c : Prop} [Decidable c] {x y x' y' : R α} (h1 : c → CutR n x x') (h2 : ¬ c → CutR n y y') : CutR n (if c then x else y) (if c then x' else y') := by
  split
  · exact h1 ‹_›
  · exact h2 ‹_›
end
section
variable {s t : ByteArray} {n i : Nat}
theorem digit_from (s : ByteArray) (i : Nat) : From i (Rx.digit s i) := .ite (Nat.le_succ _) (Nat.le_refl _)
theorem digit_end (C : Cut s t n) : Good n (Rx.digit t n) := by
  unfold Rx.digit; rw [C.off (Nat.le_refl _), if_neg (by rw [ixOf_neg (by omega)]; omega)]; exact rfl
theorem digit_cut (C : Cut s t n) (hi : i ≤ n) : CutR n (Rx.digit s i) (Rx.digit t i) :=
  .at_ hi (digit_from _ _) (fun e => by subst e; exact digit_end C) fun h => by
    have e : Rx.digit t i = Rx.digit s i := by unfold Rx.digit; rw [C.same i h]
    rw [e]
    exact .same _
theorem escape_from (s : ByteArray) (i : Nat) : From i (Rx.escape s i) := by
  unfold Rx.escape
  refine .ite (Nat.le_refl _) (.ite ?_ (.ite (Nat.le_succ _) (.ite (Nat.le_succ _) (.ite (Nat.le_succ _) (Nat.le_refl _)))))
  refine ((digit_from s (i + 1)).weaken (Nat.le_succ _)).bind fun a j _ hj => ((digit_from s j).weaken hj).bind fun b k _ hk => hk
theorem escape_end (C : Cut s t n) : Good n (Rx.escape t n) := by
  unfold Rx.escape; rw [C.off (Nat.le_refl _), if_pos (by omega)]; exact rfl
theorem escape_cut (C : Cut s t n) (hi : i ≤ n) : CutR n (Rx.escape s i) (Rx.escape t i) :=
  .at_ hi (escape_from _ _) (fun e => by subst e; exact escape_end C) fun h => by
    unfold Rx.escape
    rw [C.same i h]
    refine .ite (fun _ => .same _) fun _ => .ite (fun _ => ?_) fun _ => .same _
    refine (digit_cut C h).bind (fun a j _ => (digit_from s j).bind fun b k _ hk => hk) (fun a j e hj => ?_) (fun a => ?_)
    · exact (digit_cut C (Nat.le_of_lt hj)).bind (fun a j e2 => Nat.le_refl _) (fun a j e hj => .same _) (fun a => rfl)
    · exact (digit_end C).bind fun a => rfl
theorem one_from (s : ByteArray) (i : Nat) : From i (Rx.one s i) := .ite ((escape_from s (i + 1)).weaken (Nat.le_succ _)) (.ite (Nat.le_succ _) (Nat.le_refl _))
theorem one_end (C : Cut s t n) : Good n (Rx.one t n) := by
  unfold Rx.one; rw [C.off (Nat.le_refl _), if_neg (by omega), if_neg (by omega)]; exact rfl
theorem one_cut (C : Cut s t n) (hi : i ≤ n) : CutR n (Rx.one s i) (Rx.one t i) :=
  .at_ hi (one_from _ _) (fun e => by subst e; exact one_end C) fun h => by
    unfold Rx.one
    rw [C.same i h]
    exact .ite (fun _ => escape_cut C h) fun _ => .same _
/-- Read wholly ahead of the cut: the same. -/
theorem digit_in {s t : ByteArray} {n i : Nat} (C : ∀ i, i < n → nx t i = nx s i) {a : Int} {j : Nat} (h : Rx.digit s i = .ok a j) (hj : j ≤ n) : Rx.digit t i = .ok a j := by
  have := digit_gt h
  rw [← h]; unfold Rx.digit; rw [C i (by omega)]
theorem escape_in {s t : ByteArray} {n i : Nat} (C : ∀ i, i < n → nx t i = nx s i) {a : Int} {j : Nat} (h : Rx.escape s i = .ok a j) (hj : j ≤ n) : Rx.escape t i = .ok a j := by
  have hg := escape_gt h
  rw [← h]
  unfold Rx.escape at h ⊢
  rw [C i (by omega)]
  split
  · rfl
  split
  · rename_i h0 h1
    rw [if_neg h0, if_pos h1] at h
    cases h2 : Rx.digit s (i + 1) with
    | ok x y =>
      rw [h2] at h
      simp only [R.bind] at h
      cases h3 : Rx.digit s y with
      | ok x' y' =>
        rw [h3] at h
        injection h with _ h
        have := digit_gt h3
        rw [digit_in C h2 (by omega)]
        simp only [R.bind]
        rw [digit_in C h3 (by omega), h3]
      | bad k => rw [h3] at h; cases h
      | out => rw [h3] at h; cases h
    | bad k => rw [h2] at h; cases h
    | out => rw [h2] at h; cases h
  · rfl
theorem one_in {s t : ByteArray} {n i : Nat} (C : ∀ i, i < n → nx t i = nx s i) {a : Int} {j : Nat} (h : Rx.one s i = .ok a j) (hj : j ≤ n) : Rx.one t i = .ok a j := by
  have hg := one_gt h
  unfold Rx.one at h ⊢
  rw [C i (by omega)]
  split
  · rename_i h0
    rw [if_pos h0] at h
    exact escape_in C h hj
  · rename_i h0
    rw [if_neg h0] at h
    exact h
theorem span_from (s : ByteArray) (i : Nat) : From i (Rx.span s i) := by
  unfold Rx.span
  refine (one_from s i).bind fun a j _ hj => .ite ?_ hj
  refine ((one_from s (j + 1)).weaken (i' := i) (by omega)).bind fun b k _ hk => .ite hk (show i ≤ j + 1 by omega)
theorem span_end (C : Cut s t n) : Good n (Rx.span t n) := by
  unfold Rx.span
  refine (one_end C).bind fun a => ?_
  rw [C.off (Nat.le_refl _), if_neg (by omega)]; exact rfl
theorem span_cut (C : Cut s t n) (hi : i ≤ n) : CutR n (Rx.span s i) (Rx.span t i) := by
  unfold Rx.span
  refine (one_cut C hi).bind (fun a j _ => .ite ?_ (Nat.le_refl _)) (fun a j e hj => ?_) (fun a => ?_)
  · exact ((one_from s (j + 1)).weaken (i' := j) (by omega)).bind fun b k _ hk => .ite hk (show j ≤ j + 1 by omega)
  · rw [C.same j hj]
    refine .ite (fun _ => ?_) fun _ => .same _
    cases h2 : Rx.one s (j + 1) with
    | ok hi' k =>
      rcases Nat.lt_or_ge n k with hk | hk
      · -- behind the cut
        by_cases hl : a ≤ hi'
        · refine .far (m := k) ?_ hk
          show From k (if a ≤ hi' then R.ok _ k else R.bad (j + 1))
          rw [if_pos hl]; exact Nat.le_refl _
        · have e2 : (R.ok hi' k).bind (fun hi k => if a ≤ hi then R.ok (ofS a hi) k else R.bad (j + 1)) = R.bad (j + 1) := by simp only [R.bind]; rw [if_neg hl]
          rw [e2]
          by_cases hjn : j + 1 = n
          · rw [hjn]
            refine .good (Nat.le_refl _) ?_
            have := one_end C
            cases h3 : Rx.one t n with
            | ok x y => have := one_gt h3; have := C.size; omega
            | bad k => rw [h3] at this; exact this
            | out => rw [h3] at this; exact this
          · exact .ofBad fun e => absurd e hjn
      · rw [one_in C.same h2 hk]; exact .same _
    | bad k =>
      refine .ofBad fun e => ?_
      have h3 := (one_cut C (i := j + 1) hj).bad (by rw [h2, e])
      cases h4 : Rx.one t (j + 1) with
      | ok x y =>
        rw [h4] at h3
        have h3 : y = n := h3
        have h5 := one_in (s := t) (t := s) (fun i hi => (C.same i hi).symm) h4 (Nat.le_of_eq h3)
        rw [h2] at h5; cases h5
      | bad k => rw [h4] at h3; exact h3
      | out => rw [h4] at h3; exact h3
    | out => exact .ofOut
  · rw [C.off (Nat.le_refl _), if_neg (by omega)]; exact rfl
end
end Go.Proofs.Ytcphepjfnnbonaa
