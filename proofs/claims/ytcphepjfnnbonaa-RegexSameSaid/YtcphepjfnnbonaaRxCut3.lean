/- The plain law of RegexFirst, its third part: atoms, items, choices, the whole. -/
import Derived.Test.YtcphepjfnnbonaaRxCut2
namespace Go.Proofs.Ytcphepjfnnbonaa
set_option linter.unusedVariables false
set_option linter.unusedSimpArgs false
section
variable {s t : ByteArray} {n i : Nat}
/-- What reads an alt behind a bracket, in both texts. -/
def SubCut (n : Nat) : Option (Nat → R Nd) → Option (Nat → R Nd) → Prop
  | none, none => True
  | some p, some q => (∀ i, From i (p i)) ∧ ∀ i, i ≤ n → CutR n (p i) (q i)
  | _, _ => False
section
variable {p q : Option (Nat → R Nd)}
def SubFrom : Option (Nat → R Nd) → Prop
  | none => True
  | some p => ∀ i, From i (p i)
theorem atom_from (hp : SubFrom p) (s : ByteArray) (i : Nat) : From i (Rx.atom s p i) := by
  unfold Rx.atom
  refine .ite ?_ (.ite (Nat.le_succ _) (.ite ?_ ?_))
  · cases p with
    | none => exact Nat.le_refl _
    | some p => exact ((hp (i + 1)).weaken (Nat.le_succ _)).bind fun nd j _ hj => ((must_from s 41 j).weaken hj).bind fun _ k _ hk => hk
  · exact ((cls_from s (i + 1)).weaken (Nat.le_succ _)).bind fun _ j _ hj => hj
  · exact (one_from s i).bind fun _ j _ hj => hj
theorem item_from (hp : SubFrom p) (s : ByteArray) (i : Nat) : From i (Rx.item s p i) := by
  unfold Rx.item
  refine (atom_from hp s i).bind fun a j _ hj => .ite (show i ≤ j + 1 by omega) (.ite (show i ≤ j + 1 by omega) (.ite (show i ≤ j + 1 by omega) (.ite ?_ hj)))
  exact ((bounds_from s (j + 1)).weaken (i' := i) (by omega)).bind fun _ k _ hk => hk
theorem catLoop_from (hp : SubFrom p) (s : ByteArray) : ∀ (k i : Nat) (l : List Nd), From i (Rx.catLoop s p k i l)
  | 0, _, _ => trivial
  | k + 1, i, l => by
    unfold Rx.catLoop
    exact .ite (Nat.le_refl _) ((item_from hp s i).bind fun a j _ hj => (catLoop_from hp s k j _).weaken hj)
theorem cat_from (hp : SubFrom p) (s : ByteArray) (i : Nat) : From i (Rx.cat s p i) := (catLoop_from hp s _ i _).bind fun _ j _ hj => hj
theorem altLoop_from (hp : SubFrom p) (s : ByteArray) : ∀ (k i : Nat) (l : List Nd), From i (Rx.altLoop s p k i l)
  | 0, _, _ => trivial
  | k + 1, i, l => by
    unfold Rx.altLoop
    exact .ite (((cat_from hp s (i + 1)).weaken (i' := i) (by omega)).bind fun a j _ hj => (altLoop_from hp s k j _).weaken hj) (Nat.le_refl _)
theorem altF_from (hp : SubFrom p) (s : ByteArray) (i : Nat) : From i (Rx.altF s p i) :=
  (cat_from hp s i).bind fun a j _ hj => ((altLoop_from hp s _ j _).weaken hj).bind fun _ k _ hk => hk
theorem alt_from (s : ByteArray) : ∀ (d i : Nat), From i (Rx.alt s d i)
  | 0, i => altF_from (p := none) trivial s i
  | d + 1, i => altF_from (p := some _) (alt_from s d) s i

theorem SubCut.from (h : SubCut n p q) : SubFrom p := by
  cases p with
  | none => trivial
  | some p => cases q with
    | none => exact h.elim
    | some q => exact h.1
theorem atom_end (C : Cut s t n) (q : Option (Nat → R Nd)) : Good n (Rx.atom t q n) := by
  unfold Rx.atom
  rw [C.off (Nat.le_refl _), if_neg (by omega), if_neg (by omega), if_neg (by omega)]
  exact (one_end C).bind fun _ => rfl
theorem atom_cut (C : Cut s t n) (h : SubCut n p q) (hi : i ≤ n) : CutR n (Rx.atom s p i) (Rx.atom t q i) := by
  refine .at_ hi (atom_from h.from _ _) (fun e => by subst e; exact atom_end C q) fun hlt => ?_
  unfold Rx.atom
  rw [C.same i hlt]
  refine .ite (fun _ => ?_) fun _ => .ite (fun _ => .same _) fun _ => .ite (fun _ => ?_) fun _ => ?_
  · cases p with
    | none => cases q with
      | none => exact .same _
      | some q => exact h.elim
    | some p => cases q with
      | none => exact h.elim
      | some q =>
        refine (h.2 (i + 1) hlt).bind (fun nd j _ => (must_from s 41 j).bind fun _ k _ hk => hk) (fun nd j _ hj => ?_) (fun nd => (must_end C (by omega)).bind fun _ => rfl)
        exact (must_cut C (by omega) (Nat.le_of_lt hj)).bind (fun _ j _ => Nat.le_refl _) (fun _ j _ _ => .same _) (fun _ => rfl)
  · exact (cls_cut C hlt).bind (fun _ j _ => Nat.le_refl _) (fun _ j _ _ => .same _) (fun _ => rfl)
  · exact (one_cut C hi).bind (fun _ j _ => Nat.le_refl _) (fun _ j _ _ => .same _) (fun _ => rfl)
theorem item_end (C : Cut s t n) (q : Option (Nat → R Nd)) : Good n (Rx.item t q n) := by
  unfold Rx.item
  refine (atom_end C q).bind fun a => ?_
  rw [C.off (Nat.le_refl _), if_neg (by omega), if_neg (by omega), if_neg (by omega), if_neg (by omega)]
  exact rfl
theorem item_cut (C : Cut s t n) (h : SubCut n p q) (hi : i ≤ n) : CutR n (Rx.item s p i) (Rx.item t q i) := by
  unfold Rx.item
  refine (atom_cut C h hi).bind (fun a j _ => ?_) (fun a j _ hj => ?_) (fun a => ?_)
  · refine .ite (Nat.le_succ _) (.ite (Nat.le_succ _) (.ite (Nat.le_succ _) (.ite ?_ (Nat.le_refl _))))
    exact ((bounds_from s (j + 1)).weaken (Nat.le_succ _)).bind fun _ k _ hk => hk
  · rw [C.same j hj]
    refine .ite (fun _ => .same _) fun _ => .ite (fun _ => .same _) fun _ => .ite (fun _ => .same _) fun _ => .ite (fun _ => ?_) fun _ => .same _
    exact (bounds_cut C hj).bind (fun _ j _ => Nat.le_refl _) (fun _ j _ _ => .same _) (fun _ => rfl)
  · rw [C.off (Nat.le_refl _), if_neg (by omega), if_neg (by omega), if_neg (by omega), if_neg (by omega)]
    exact rfl
theorem ends_last (C : Cut s t n) : Rx.ends t n = true := by unfold Rx.ends; rw [C.off (Nat.le_refl _)]; rfl
theorem catLoop_last (C : Cut s t n) (q : Option (Nat → R Nd)) (k : Nat) (l : List Nd) : Good n (Rx.catLoop t q (k + 1) n l) := by
  unfold Rx.catLoop; rw [if_pos (ends_last C)]; exact rfl
theorem catLoop_cut (C : Cut s t n) (hs : SubGoes s p) (h : SubCut n p q) : ∀ (k k' i : Nat) (l : List Nd), n + 1 ≤ k' + i → i ≤ n → CutR n (Rx.catLoop s p k i l) (Rx.catLoop t q k' i l)
  | 0, _, _, _, _, _ => .ofOut
  | k + 1, 0, i, l, hk, hi => by omega
  | k + 1, k' + 1, i, l, hk, hi => by
    refine .at_ hi (catLoop_from h.from _ _ _ _) (fun e => by subst e; exact catLoop_last C q k' l) fun hlt => ?_
    unfold Rx.catLoop
    have e : Rx.ends t i = Rx.ends s i := by unfold Rx.ends; rw [C.same i hlt]
    rw [e]
    refine .ite (fun _ => .same _) fun _ => ?_
    refine (item_cut C h hi).bind (fun b j _ => catLoop_from h.from _ _ _ _) (fun b j e hj => catLoop_cut C hs h k k' j _ (by have := (item_goes hs i (by have := C.le; omega)).2 _ _ e; omega) (Nat.le_of_lt hj)) (fun b => ?_)
    cases k' with
    | zero => omega
    | succ k' => exact catLoop_last C q k' _
theorem cat_end (C : Cut s t n) (q : Option (Nat → R Nd)) : Good n (Rx.cat t q n) := (catLoop_last C q _ _).bind fun _ => rfl
theorem cat_cut (C : Cut s t n) (hs : SubGoes s p) (h : SubCut n p q) (hi : i ≤ n) : CutR n (Rx.cat s p i) (Rx.cat t q i) := by
  unfold Rx.cat
  exact (catLoop_cut C hs h _ _ i [] (by rw [C.size]; omega) hi).bind (fun _ j _ => Nat.le_refl _) (fun _ j _ _ => .same _) (fun _ => rfl)
theorem altLoop_last (C : Cut s t n) (q : Option (Nat → R Nd)) (k : Nat) (l : List Nd) : Good n (Rx.altLoop t q (k + 1) n l) := by
  unfold Rx.altLoop; rw [C.off (Nat.le_refl _), if_neg (by omega)]; exact rfl
theorem altLoop_cut (C : Cut s t n) (hs : SubGoes s p) (h : SubCut n p q) : ∀ (k k' i : Nat) (l : List Nd), n + 1 ≤ k' + i → i ≤ n → CutR n (Rx.altLoop s p k i l) (Rx.altLoop t q k' i l)
  | 0, _, _, _, _, _ => .ofOut
  | k + 1, 0, i, l, hk, hi => by omega
  | k + 1, k' + 1, i, l, hk, hi => by
    refine .at_ hi (altLoop_from h.from _ _ _ _) (fun e => by subst e; exact altLoop_last C q k' l) fun hlt => ?_
    unfold Rx.altLoop
    rw [C.same i hlt]
    refine .ite (fun _ => ?_) fun _ => .same _
    refine (cat_cut C hs h hlt).bind (fun b j _ => altLoop_from h.from _ _ _ _) (fun b j e hj => altLoop_cut C hs h k k' j _ (by have := (cat_goes hs (i + 1) (by have := C.le; omega)).2 _ _ e; omega) (Nat.le_of_lt hj)) (fun b => ?_)
    cases k' with
    | zero => omega
    | succ k' => exact altLoop_last C q k' _
theorem altF_cut (C : Cut s t n) (hs : SubGoes s p) (h : SubCut n p q) (hi : i ≤ n) : CutR n (Rx.altF s p i) (Rx.altF t q i) := by
  unfold Rx.altF
  refine (cat_cut C hs h hi).bind (fun a j _ => (altLoop_from h.from s _ j _).bind fun _ k _ hk => hk) (fun a j _ hj => ?_) (fun a => (altLoop_last C q _ _).bind fun _ => rfl)
  exact (altLoop_cut C hs h _ _ j [a] (by rw [C.size]; omega) (Nat.le_of_lt hj)).bind (fun _ j _ => Nat.le_refl _) (fun _ j _ _ => .same _) (fun _ => rfl)
end
theorem alt_cut (C : Cut s t n) : ∀ (d i : Nat), i ≤ n → CutR n (Rx.alt s d i) (Rx.alt t d i)
  | 0, i, hi => altF_cut (p := none) (q := none) C trivial trivial hi
  | d + 1, i, hi => altF_cut (p := some _) (q := some _) C (fun i hi => alt_goes s d i hi) ⟨alt_from s d, alt_cut C d⟩ hi
/-- THE PLAIN LAW. -/
theorem parse_cut (C : Cut s t n) (h : Rx.parse s = .bad n) : (∃ a, Rx.parse t = .ok a 0) ∨ Rx.parse t = .bad n := by
  have hc := alt_cut C 12 0 (Nat.zero_le _)
  have g : Good n (Rx.alt t 12 0) := by
    unfold Rx.parse at h
    cases h2 : Rx.alt s 12 0 with
    | ok a j =>
      rw [h2] at h
      simp only [R.bind] at h
      split at h
      · cases h
      · injection h with h
        subst h
        exact hc.eq a h2
    | bad k =>
      rw [h2] at h
      injection h with h
      subst h
      exact hc.bad h2
    | out => rw [h2] at h; cases h
  unfold Rx.parse
  cases h2 : Rx.alt t 12 0 with
  | ok a j =>
    rw [h2] at g
    have g : j = n := g
    simp only [R.bind]
    rw [if_pos (by rw [C.size]; exact g)]
    exact .inl ⟨a, rfl⟩
  | bad k =>
    rw [h2] at g
    have g : k = n := g
    subst g
    exact .inr rfl
  | out => rw [h2] at g; exact g.elim
end
end Go.Proofs.Ytcphepjfnnbonaa
