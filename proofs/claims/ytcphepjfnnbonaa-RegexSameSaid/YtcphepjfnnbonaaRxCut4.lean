/- The place that is wrong lies in the text; the cut of a text. -/
import Derived.Test.YtcphepjfnnbonaaRxCut3
namespace Go.Proofs.Ytcphepjfnnbonaa
set_option linter.unusedVariables false
set_option linter.unusedSimpArgs false
def Bd {α : Type} (m : Nat) (r : R α) : Prop := ∀ k, r = .bad k → k ≤ m
section
variable {α β : Type} {m : Nat} {r : R α} {f : α → Nat → R β}
theorem Bd.ok {a : α} {j : Nat} : Bd m (R.ok a j) := fun _ e => nomatch e
theorem Bd.bad {k : Nat} (h : k ≤ m) : Bd m (R.bad k : R α) := fun _ e => by injection e with e; omega
theorem Bd.out : Bd m (R.out : R α) := fun _ e => nomatch e
theorem Bd.bind (h : Bd m r) (hf : ∀ a j, r = .ok a j → Bd m (f a j)) : Bd m (r.bind f) := by
  cases r with
  | ok a j => exact hf a j rfl
  | bad k => exact .bad (h k rfl)
  | out => exact .out
theorem Bd.ite {c : Prop} [Decidable c] {x y : R α} (h1 : c → Bd m x) (h2 : ¬ c → Bd m y) : Bd m (if c then x else y) := by
  split
  · exact h1 ‹_›
  · exact h2 ‹_›
end
section
variable {s : ByteArray} {i : Nat}
theorem at_lt {c : Int} (h : nx s i = c) (hc : 0 ≤ c) : i + 1 ≤ s.size := nx_nonneg (by omega)
theorem digit_in_text (hi : i ≤ s.size) : Bd s.size (Rx.digit s i) := .ite (fun _ => .ok) fun _ => .bad hi
theorem escape_in_text (hi : i ≤ s.size) : Bd s.size (Rx.escape s i) := by
  unfold Rx.escape
  refine .ite (fun _ => .bad hi) fun _ => .ite (fun h => ?_) fun _ => .ite (fun _ => .ok) fun _ => .ite (fun _ => .ok) fun _ => .ite (fun _ => .ok) fun _ => .bad hi
  exact (digit_in_text (at_lt h (by omega))).bind fun a j e => (digit_in_text (by have := digit_gt e; omega)).bind fun _ _ _ => .ok
theorem one_in_text (hi : i ≤ s.size) : Bd s.size (Rx.one s i) := .ite (fun h => escape_in_text (at_lt h (by omega))) fun _ => .ite (fun _ => .ok) fun _ => .bad hi
theorem span_in_text (hi : i ≤ s.size) : Bd s.size (Rx.span s i) := by
  unfold Rx.span
  refine (one_in_text hi).bind fun a j e => .ite (fun h => ?_) fun _ => .ok
  have h1 := at_lt h (by omega)
  exact (one_in_text h1).bind fun b k e => .ite (fun _ => .ok) fun _ => .bad h1
theorem classLoop_in_text : ∀ (k i a : Nat), i ≤ s.size → Bd s.size (Rx.classLoop s k i a)
  | 0, _, _, _ => .out
  | k + 1, i, a, hi => by
    unfold Rx.classLoop
    exact .ite (fun _ => .ok) fun _ => (span_in_text hi).bind fun b j e => classLoop_in_text k j _ (span_gt e).2
theorem cls_in_text (hi : i ≤ s.size) : Bd s.size (Rx.cls s i) := by
  unfold Rx.cls
  refine (classLoop_in_text _ _ _ ?_).bind fun _ _ _ => .ok
  by_cases h : nx s i = 94
  · simpa [h] using at_lt h (by omega)
  · simpa [h] using hi
theorem must_in_text {c : Int} (hi : i ≤ s.size) : Bd s.size (Rx.must s c i) := .ite (fun _ => .ok) fun _ => .bad hi
theorem number_in_text (hi : i ≤ s.size) : Bd s.size (Rx.number s i) := fun k e => by rw [number_bad e]; exact hi
theorem bounds_in_text (hi : i ≤ s.size) : Bd s.size (Rx.bounds s i) := by
  unfold Rx.bounds
  refine (number_in_text hi).bind fun m j e => .ite (fun h => .ite (fun _ => .ok) fun _ => ?_) fun _ => (must_in_text (number_bd e).2.2.2).bind fun _ _ _ => .ok
  have h1 := at_lt h (by omega)
  exact (number_in_text h1).bind fun n k e => .ite (fun _ => (must_in_text (number_bd e).2.2.2).bind fun _ _ _ => .ok) fun _ => .bad h1
def SubIn (s : ByteArray) : Option (Nat → R Nd) → Prop
  | none => True
  | some p => ∀ i, i ≤ s.size → Bd s.size (p i)
section
variable {p : Option (Nat → R Nd)}
theorem atom_in_text (hs : SubGoes s p) (h : SubIn s p) (hi : i ≤ s.size) : Bd s.size (Rx.atom s p i) := by
  unfold Rx.atom
  refine .ite (fun h0 => ?_) fun _ => .ite (fun _ => .ok) fun _ => .ite (fun h0 => ?_) fun _ => (one_in_text hi).bind fun _ _ _ => .ok
  · have h1 := at_lt h0 (by omega)
    cases p with
    | none => exact .bad hi
    | some p => exact (h (i + 1) h1).bind fun a j e => (must_in_text ((hs (i + 1) h1).2 _ _ e).2).bind fun _ _ _ => .ok
  · exact (cls_in_text (at_lt h0 (by omega))).bind fun _ _ _ => .ok
theorem item_in_text (hs : SubGoes s p) (h : SubIn s p) (hi : i ≤ s.size) : Bd s.size (Rx.item s p i) := by
  unfold Rx.item
  refine (atom_in_text hs h hi).bind fun a j e => .ite (fun _ => .ok) fun _ => .ite (fun _ => .ok) fun _ => .ite (fun _ => .ok) fun _ => .ite (fun h0 => ?_) fun _ => .ok
  exact (bounds_in_text (at_lt h0 (by omega))).bind fun _ _ _ => .ok
theorem catLoop_in_text (hs : SubGoes s p) (h : SubIn s p) : ∀ (k i : Nat) (l : List Nd), i ≤ s.size → Bd s.size (Rx.catLoop s p k i l)
  | 0, _, _, _ => .out
  | k + 1, i, l, hi => by
    unfold Rx.catLoop
    exact .ite (fun _ => .ok) fun _ => (item_in_text hs h hi).bind fun b j e => catLoop_in_text hs h k j _ ((item_goes hs i hi).2 _ _ e).2
theorem cat_in_text (hs : SubGoes s p) (h : SubIn s p) (hi : i ≤ s.size) : Bd s.size (Rx.cat s p i) := (catLoop_in_text hs h _ _ _ hi).bind fun _ _ _ => .ok
theorem altLoop_in_text (hs : SubGoes s p) (h : SubIn s p) : ∀ (k i : Nat) (l : List Nd), i ≤ s.size → Bd s.size (Rx.altLoop s p k i l)
  | 0, _, _, _ => .out
  | k + 1, i, l, hi => by
    unfold Rx.altLoop
    refine .ite (fun h0 => ?_) fun _ => .ok
    have h1 := at_lt h0 (by omega)
    exact (cat_in_text hs h h1).bind fun b j e => altLoop_in_text hs h k j _ ((cat_goes hs (i + 1) h1).2 _ _ e).2
theorem altF_in_text (hs : SubGoes s p) (h : SubIn s p) (hi : i ≤ s.size) : Bd s.size (Rx.altF s p i) :=
  (cat_in_text hs h hi).bind fun a j e => (altLoop_in_text hs h _ _ _ ((cat_goes hs i hi).2 _ _ e).2).bind fun _ _ _ => .ok
end
theorem alt_in_text (s : ByteArray) : ∀ (d i : Nat), i ≤ s.size → Bd s.size (Rx.alt s d i)
  | 0, i, hi => altF_in_text (p := none) trivial trivial hi
  | d + 1, i, hi => altF_in_text (p := some _) (fun i hi => alt_goes s d i hi) (alt_in_text s d) hi
theorem parse_in_text {k : Nat} (h : Rx.parse s = .bad k) : k ≤ s.size := by
  have : Bd s.size (Rx.parse s) := (alt_in_text s 12 0 (Nat.zero_le _)).bind fun a j e => .ite (fun _ => .ok) fun _ => .bad ((alt_goes s 12 0 (Nat.zero_le _)).2 _ _ e).2
  exact this k h
theorem nx_eq (s : ByteArray) (i : Nat) : nx s i = match s.data[i]? with | some b => (b.toNat : Int) | none => -1 := by
  unfold nx
  by_cases h : i < s.size
  · have h' : i < s.data.size := h
    rw [dif_pos h, Array.getElem?_eq_getElem h']
    rfl
  · have h' : ¬ i < s.data.size := h
    rw [dif_neg h, Array.getElem?_eq_none (by omega)]
theorem Cut.extract (s : ByteArray) {n : Nat} (hn : n ≤ s.size) : Cut s (s.extract 0 n) n :=
  ⟨by simp [ByteArray.size_extract]; omega, hn, fun i hi => by
    rw [nx_eq, nx_eq, ByteArray.data_extract, Array.getElem?_extract]
    rw [if_pos (by have : s.data.size = s.size := rfl; omega)]
    simp⟩
end
end Go.Proofs.Ytcphepjfnnbonaa
