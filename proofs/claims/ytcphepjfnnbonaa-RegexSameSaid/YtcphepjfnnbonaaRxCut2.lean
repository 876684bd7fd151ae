/- The plain law of RegexFirst, its second part: classes, numbers, atoms, items, choices. -/
import Derived.Test.YtcphepjfnnbonaaRxCut
namespace Go.Proofs.Ytcphepjfnnbonaa
set_option linter.unusedVariables false
set_option linter.unusedSimpArgs false
section
variable {α β : Type} {n i : Nat} {r r' : R α} {f f' : α → Nat → R β}
theorem Good.bindN (h : Good n r') (hno : ∀ a, r' ≠ .ok a n) : Good n (r'.bind f') := by
  cases r' with
  | ok a j => have h : j = n := h; subst h; exact absurd rfl (hno a)
  | bad k => exact h
  | out => exact h
theorem CutR.bindN (h : CutR n r r') (pg : ∀ a j, r = .ok a j → From j (f a j)) (hf : ∀ a j, r = .ok a j → j < n → CutR n (f a j) (f' a j)) (hno : ∀ a, r' ≠ .ok a n) : CutR n (r.bind f) (r'.bind f') := by
  cases r with
  | ok a j =>
    rcases Nat.lt_trichotomy j n with hj | hj | hj
    · rw [h.lt a j rfl hj]; exact hf a j rfl hj
    · subst hj
      exact .good (pg a j rfl) ((h.eq a rfl).bindN hno)
    · exact .far (pg a j rfl) hj
  | bad k => exact .ofBad fun e => (h.bad (by rw [e])).bindN hno
  | out => exact .ofOut
end
section
variable {s t : ByteArray} {n i : Nat}
theorem classLoop_from (s : ByteArray) : ∀ (k i a : Nat), From i (Rx.classLoop s k i a)
  | 0, i, a => trivial
  | k + 1, i, a => by
    unfold Rx.classLoop
    exact .ite (Nat.le_refl _) ((span_from s i).bind fun b j _ hj => (classLoop_from s k j _).weaken hj)
theorem classLoop_last (C : Cut s t n) (k a : Nat) : Good n (Rx.classLoop t (k + 1) n a) := by
  unfold Rx.classLoop
  rw [C.off (Nat.le_refl _), if_neg (by omega)]
  have h := span_end C
  cases h2 : Rx.span t n with
  | ok x y => have := span_gt h2; have := C.size; omega
  | bad k => rw [h2] at h; exact h
  | out => rw [h2] at h; exact h
theorem classLoop_cut (C : Cut s t n) : ∀ (k k' i a : Nat), n + 1 ≤ k' + i → i ≤ n → CutR n (Rx.classLoop s k i a) (Rx.classLoop t k' i a)
  | 0, _, _, _, _, _ => .ofOut
  | k + 1, 0, i, a, h, hi => by omega
  | k + 1, k' + 1, i, a, h, hi => by
    refine .at_ hi (classLoop_from _ _ _ _) (fun e => by subst e; exact classLoop_last C k' a) fun hlt => ?_
    unfold Rx.classLoop
    rw [C.same i hlt]
    refine .ite (fun _ => .same _) fun _ => ?_
    refine (span_cut C hi).bind (fun b j _ => classLoop_from _ _ _ _) (fun b j e hj => classLoop_cut C k k' j _ (by have := span_gt e; omega) (Nat.le_of_lt hj)) (fun b => ?_)
    cases k' with
    | zero => omega
    | succ k' => exact classLoop_last C k' _
theorem cls_from (s : ByteArray) (i : Nat) : From i (Rx.cls s i) := by
  unfold Rx.cls
  refine ((classLoop_from s (s.size + 1) _ 0).weaken (i' := i) (by split <;> omega)).bind fun a j _ hj => ?_
  show i ≤ j + 1
  omega
theorem cls_cut (C : Cut s t n) (hi : i ≤ n) : CutR n (Rx.cls s i) (Rx.cls t i) := by
  have key : ∀ (b : Bool) (i' : Nat), i' ≤ n → CutR n ((Rx.classLoop s (s.size + 1) i' 0).bind fun a j => .ok (if b = true then notS a else a) (j + 1)) ((Rx.classLoop t (t.size + 1) i' 0).bind fun a j => .ok (if b = true then notS a else a) (j + 1)) := fun b i' hi' => by
    refine (classLoop_cut C _ _ i' 0 (by rw [C.size]; omega) hi').bindN (fun a j _ => Nat.le_succ _) (fun a j e hj => .same _) (fun a e => ?_)
    have := classLoop_end _ _ _ _ _ e
    rw [C.off (Nat.le_refl _)] at this
    omega
  refine .at_ hi (cls_from _ _) (fun e => ?_) fun hlt => ?_
  · subst e
    have h94 : ¬ nx t i = 94 := by rw [C.off (Nat.le_refl _)]; omega
    have h := classLoop_last C i 0
    have e : Rx.cls t i = (Rx.classLoop t (t.size + 1) i 0).bind fun a j => .ok a (j + 1) := by unfold Rx.cls; simp [h94]
    rw [e, C.size]
    refine h.bindN fun a e => ?_
    have := classLoop_end _ _ _ _ _ e
    rw [C.off (Nat.le_refl _)] at this
    omega
  · unfold Rx.cls
    rw [C.same i hlt]
    by_cases h94 : nx s i = 94
    · have h := key true (i + 1) hlt
      simpa [h94] using h
    · have h := key false i hi
      simpa [h94] using h
theorem must_from (s : ByteArray) (c : Int) (i : Nat) : From i (Rx.must s c i) := .ite (Nat.le_succ _) (Nat.le_refl _)
theorem must_end (C : Cut s t n) {c : Int} (hc : 0 ≤ c) : Good n (Rx.must t c n) := by
  unfold Rx.must; rw [C.off (Nat.le_refl _), if_neg (by omega)]; exact rfl
theorem must_cut (C : Cut s t n) {c : Int} (hc : 0 ≤ c) (hi : i ≤ n) : CutR n (Rx.must s c i) (Rx.must t c i) :=
  .at_ hi (must_from _ _ _) (fun e => by subst e; exact must_end C hc) fun h => by unfold Rx.must; rw [C.same i h]; exact .same _
theorem number_from (s : ByteArray) (i : Nat) : From i (Rx.number s i) :=
  .ite (.ite (.ite (show i ≤ i + 2 by omega) (Nat.le_refl _)) (Nat.le_succ _)) (Nat.le_refl _)
theorem dig_neg : Rx.isDig (-1) = false := rfl
theorem number_end (C : Cut s t n) : Good n (Rx.number t n) := by
  unfold Rx.number; rw [C.off (Nat.le_refl _), if_neg (by simp [dig_neg])]; exact rfl
theorem number_bad {s : ByteArray} {i k : Nat} (h : Rx.number s i = .bad k) : k = i := by
  unfold Rx.number at h
  split at h
  · split at h
    · split at h
      · cases h
      · injection h with h; exact h.symm
    · cases h
  · injection h with h; exact h.symm
theorem number_in (C : Cut s t n) {a : Int} {j : Nat} (h : Rx.number s i = .ok a j) (hj : j ≤ n) : Rx.number t i = .ok a j := by
  have hb := number_bd h
  rcases Nat.lt_or_ge (i + 1) n with h1 | h1
  · rw [← h]; unfold Rx.number; rw [C.same i (by omega), C.same (i + 1) h1]
  · unfold Rx.number at h ⊢
    rw [C.same i (by omega), C.off h1]
    split at h
    · rename_i h0
      rw [if_pos h0, if_neg (by simp [dig_neg])]
      split at h
      · split at h
        · injection h with _ h; omega
        · cases h
      · exact h
    · cases h
theorem number_cut (C : Cut s t n) (hi : i ≤ n) : CutR n (Rx.number s i) (Rx.number t i) := by
  refine .at_ hi (number_from _ _) (fun e => by subst e; exact number_end C) fun hlt => ?_
  cases h : Rx.number s i with
  | ok a j =>
    rcases Nat.lt_or_ge n j with hj | hj
    · exact .far (m := j) (Nat.le_refl _) hj
    · rw [number_in C h hj]; exact .same _
  | bad k => exact .ofBad fun e => by have := number_bad h; omega
  | out => exact .ofOut
theorem bounds_from (s : ByteArray) (i : Nat) : From i (Rx.bounds s i) := by
  unfold Rx.bounds
  refine (number_from s i).bind fun m j _ hj => .ite (.ite (show i ≤ j + 2 by omega) ?_) ?_
  · exact ((number_from s (j + 1)).weaken (i' := i) (by omega)).bind fun n' k _ hk => .ite (((must_from s 125 k).weaken hk).bind fun _ k' _ hk' => hk') (show i ≤ j + 1 by omega)
  · exact ((must_from s 125 j).weaken hj).bind fun _ k' _ hk' => hk'
theorem bounds_cut (C : Cut s t n) (hi : i ≤ n) : CutR n (Rx.bounds s i) (Rx.bounds t i) := by
  have shut : ∀ (p : Int × Int) (k : Nat), k ≤ n → CutR n ((Rx.must s 125 k).bind fun _ k' => .ok p k') ((Rx.must t 125 k).bind fun _ k' => .ok p k') := fun p k hk =>
    (must_cut C (by omega) hk).bind (fun _ j _ => Nat.le_refl _) (fun _ j _ _ => .same _) (fun _ => rfl)
  have shutE : ∀ (p : Int × Int), Good n ((Rx.must t 125 n).bind fun _ k' => .ok p k') := fun p => (must_end C (by omega)).bind fun _ => rfl
  have inF : ∀ (m : Int) (j : Nat), From j ((Rx.number s (j + 1)).bind fun n' k => if m ≤ n' then (Rx.must s 125 k).bind fun _ k' => .ok (m, n') k' else .bad (j + 1)) := fun m j =>
    ((number_from s (j + 1)).weaken (i' := j) (by omega)).bind fun n' k _ hk => .ite (((must_from s 125 k).weaken hk).bind fun _ k' _ hk' => hk') (Nat.le_succ _)
  unfold Rx.bounds
  refine (number_cut C hi).bind (fun m j _ => .ite (.ite (show j ≤ j + 2 by omega) (inF m j)) ((must_from s 125 j).bind fun _ k' _ hk' => hk')) (fun m j e hj => ?_) (fun m => ?_)
  · rw [C.same j hj]
    refine .ite (fun _ => ?_) fun _ => shut _ j (Nat.le_of_lt hj)
    rcases Nat.lt_or_ge (j + 1) n with h1 | h1
    · rw [C.same (j + 1) h1]
      refine .ite (fun _ => .same _) fun _ => ?_
      cases h : Rx.number s (j + 1) with
      | ok n' k =>
        rcases Nat.lt_or_ge n k with hk | hk
        · simp only [R.bind]
          by_cases hm : m ≤ n'
          · rw [if_pos hm]
            exact .far (m := k) ((must_from s 125 k).bind fun _ k' _ hk' => hk') hk
          · rw [if_neg hm]
            exact .ofBad fun e => by omega
        · rw [number_in C h hk]
          simp only [R.bind]
          exact .ite (fun _ => shut _ k hk) fun _ => .same _
      | bad k => exact .ofBad fun e => by have := number_bad h; omega
      | out => exact .ofOut
    · have hjn : j + 1 = n := by omega
      rw [C.off h1, if_neg (show ¬ (-1 : Int) = 125 by omega)]
      refine CutR.good ?_ ?_
      · rw [← hjn]
        refine From.ite (show j + 1 ≤ j + 2 by omega) ?_
        exact (number_from s (j + 1)).bind fun n' k _ hk => .ite (((must_from s 125 k).weaken hk).bind fun _ k' _ hk' => hk') (Nat.le_refl _)
      · rw [hjn]
        refine (number_end C).bind fun a => ?_
        split
        · exact shutE _
        · exact rfl
  · rw [C.off (Nat.le_refl _), if_neg (by omega)]
    exact shutE _
end
end Go.Proofs.Ytcphepjfnnbonaa
