/- The plain law of RegexRound and RegexDeep: a right text read inside another one. No program in sight. -/
import Derived.Test.YtcphepjfnnbonaaRxP
namespace Go.Proofs.Ytcphepjfnnbonaa
set_option linter.unusedVariables false
set_option linter.unusedSimpArgs false

/-- s stands in t, d further; behind it a closing bracket, or the end. -/
structure Sh (s t : ByteArray) (d : Nat) : Prop where
  same : ∀ i, i < s.size → nx t (i + d) = nx s i
  stop : nx t (s.size + d) = 41 ∨ nx t (s.size + d) = -1
  le : s.size ≤ t.size
/-- What is right stays so; if p, it may be wrong. -/
def Rel {α : Type} (p : Prop) (d : Nat) (r r' : R α) : Prop := ∀ a j, r = .ok a j → r' = .ok a (j + d) ∨ (p ∧ ∃ k, r' = .bad k)
section
variable {α β : Type} {p : Prop} {d : Nat} {r r' : R α} {f f' : α → Nat → R β}
theorem bind_ok {b : β} {j : Nat} (h : r.bind f = .ok b j) : ∃ a i, r = .ok a i ∧ f a i = .ok b j := by
  cases r with
  | ok a i => exact ⟨a, i, rfl, h⟩
  | bad k => cases h
  | out => cases h
theorem Rel.bind (h : Rel p d r r') (hf : ∀ a j, r = .ok a j → Rel p d (f a j) (f' a (j + d))) : Rel p d (r.bind f) (r'.bind f') := fun b j e => by
  obtain ⟨a, i, h1, h2⟩ := bind_ok e
  rcases h a i h1 with h3 | ⟨hp, k, h3⟩
  · rw [h3]; exact hf a i h1 b j h2
  · rw [h3]; exact .inr ⟨hp, k, rfl⟩
theorem Rel.strong (h : ∀ a j, r = .ok a j → r' = .ok a (j + d)) : Rel p d r r' := fun a j e => .inl (h a j e)
theorem Rel.bad {k : Nat} : Rel p d (R.bad k) r' := fun a j e => by cases e
theorem Rel.out : Rel p d R.out r' := fun a j e => by cases e
theorem Rel.ok {a : α} {j j' : Nat} (h : j' = j + d) : Rel p d (R.ok a j) (R.ok a j') := fun a' i e => by injection e with e1 e2; subst e1; subst e2; exact .inl (by rw [h])
end
section
variable {s t : ByteArray} {d i : Nat}
theorem Sh.is (C : Sh s t d) (hi : i ≤ s.size) {c : Int} (h1 : c ≠ 41) (h2 : c ≠ -1) : (nx t (i + d) = c) = (nx s i = c) := by
  rcases Nat.lt_or_ge i s.size with h | h
  · rw [C.same i h]
  · obtain rfl : i = s.size := by omega
    have h3 : nx s s.size = -1 := nx_out (Nat.le_refl _)
    rcases C.stop with h4 | h4 <;> rw [h4, h3] <;> apply propext <;> constructor <;> intro h <;> omega
theorem Sh.dig (C : Sh s t d) (hi : i ≤ s.size) : Rx.isDig (nx t (i + d)) = Rx.isDig (nx s i) := by
  rcases Nat.lt_or_ge i s.size with h | h
  · rw [C.same i h]
  · obtain rfl : i = s.size := by omega
    have h3 : nx s s.size = -1 := nx_out (Nat.le_refl _)
    rcases C.stop with h4 | h4 <;> rw [h4, h3] <;> rfl
theorem Sh.ends (C : Sh s t d) (hi : i ≤ s.size) : Rx.ends t (i + d) = Rx.ends s i := by
  unfold Rx.ends
  rcases Nat.lt_or_ge i s.size with h | h
  · rw [C.same i h]
  · obtain rfl : i = s.size := by omega
    have h3 : nx s s.size = -1 := nx_out (Nat.le_refl _)
    rcases C.stop with h4 | h4 <;> rw [h4, h3] <;> rfl
theorem digit_sh (C : Sh s t d) {a : Int} {j : Nat} (h : Rx.digit s i = .ok a j) : Rx.digit t (i + d) = .ok a (j + d) := by
  have hg := digit_gt h
  unfold Rx.digit at h ⊢
  rw [C.same i hg.2]
  split at h
  · rename_i h0
    injection h with h1 h2
    rw [if_pos h0, h1, ← h2]
    congr 1; omega
  · cases h
theorem escape_sh (C : Sh s t d) {a : Int} {j : Nat} (h : Rx.escape s i = .ok a j) : Rx.escape t (i + d) = .ok a (j + d) := by
  have hg := escape_gt h
  unfold Rx.escape at h ⊢
  rw [C.same i (by omega), show i + d + 1 = i + 1 + d by omega]
  by_cases h0 : nx s i < 0
  · rw [if_pos h0] at h; cases h
  rw [if_neg h0] at h ⊢
  by_cases h1 : nx s i = 120
  · rw [if_pos h1] at h ⊢
    obtain ⟨x, y, h2, h3⟩ := bind_ok h
    obtain ⟨x', y', h4, h5⟩ := bind_ok h3
    rw [digit_sh C h2]
    show (Rx.digit t (y + d)).bind _ = _
    rw [digit_sh C h4]
    injection h5 with h6 h7
    subst h6; subst h7
    rfl
  rw [if_neg h1] at h ⊢
  by_cases h2 : nx s i = 110
  · rw [if_pos h2] at h ⊢; injection h with h3 h4; subst h3; subst h4; rfl
  rw [if_neg h2] at h ⊢
  by_cases h3 : nx s i = 116
  · rw [if_pos h3] at h ⊢; injection h with h3 h4; subst h3; subst h4; rfl
  rw [if_neg h3] at h ⊢
  by_cases h4 : 0 ≤ ixOf special (nx s i)
  · rw [if_pos h4] at h ⊢; injection h with h3 h4; subst h3; subst h4; rfl
  · rw [if_neg h4] at h; cases h
theorem one_sh (C : Sh s t d) {a : Int} {j : Nat} (h : Rx.one s i = .ok a j) : Rx.one t (i + d) = .ok a (j + d) := by
  have hg := one_gt h
  unfold Rx.one at h ⊢
  rw [C.same i (by omega), show i + d + 1 = i + 1 + d by omega]
  by_cases h0 : nx s i = 92
  · rw [if_pos h0] at h ⊢; exact escape_sh C h
  rw [if_neg h0] at h ⊢
  by_cases h1 : 0 ≤ nx s i ∧ plainB (nx s i) = true
  · rw [if_pos h1] at h ⊢; injection h with h3 h4; subst h3; subst h4; rfl
  · rw [if_neg h1] at h; cases h
theorem span_sh (C : Sh s t d) {a : Nat} {j : Nat} (h : Rx.span s i = .ok a j) : Rx.span t (i + d) = .ok a (j + d) := by
  unfold Rx.span at h ⊢
  obtain ⟨lo, y, h1, h2⟩ := bind_ok h
  have hg := one_gt h1
  rw [one_sh C h1]
  show (if nx t (y + d) = 45 then _ else _) = _
  simp only [C.is hg.2 (c := 45) (by omega) (by omega)]
  by_cases h45 : nx s y = 45
  · rw [if_pos h45] at h2 ⊢
    obtain ⟨hi, z, h3, h4⟩ := bind_ok h2
    rw [show y + d + 1 = y + 1 + d by omega, one_sh C h3]
    simp only [R.bind]
    split at h4
    · rename_i hle
      rw [if_pos hle]; injection h4 with h5 h6; subst h5; subst h6; rfl
    · cases h4
  · rw [if_neg h45] at h2 ⊢
    injection h2 with h5 h6; subst h5; subst h6; rfl
theorem classLoop_sh (C : Sh s t d) : ∀ (k k' i a : Nat), k ≤ k' → i ≤ s.size → ∀ (a' j : Nat), Rx.classLoop s k i a = .ok a' j → Rx.classLoop t k' (i + d) a = .ok a' (j + d)
  | 0, _, _, _, _, _, _, _, h => by cases h
  | k + 1, 0, _, _, hk, _, _, _, _ => by omega
  | k + 1, k' + 1, i, a, hk, hi, a', j, h => by
    unfold Rx.classLoop at h ⊢
    simp only [C.is hi (c := 93) (by omega) (by omega)]
    by_cases hx : nx s i = 93
    · rw [if_pos hx] at h ⊢; injection h with h3 h4; subst h3; subst h4; rfl
    · rw [if_neg hx] at h ⊢
      obtain ⟨b, y, h1, h2⟩ := bind_ok h
      have hg := span_gt h1
      rw [span_sh C h1]
      exact classLoop_sh C k k' y _ (by omega) hg.2 a' j h2
theorem cls_sh (C : Sh s t d) (hi : i ≤ s.size) {a j : Nat} (h : Rx.cls s i = .ok a j) : Rx.cls t (i + d) = .ok a (j + d) := by
  unfold Rx.cls at h ⊢
  simp only [C.is hi (c := 94) (by omega) (by omega)]
  obtain ⟨x, y, h1, h2⟩ := bind_ok h
  have hi' : (if nx s i = 94 then i + 1 else i) ≤ s.size := by
    split
    · have := nx_nonneg (s := s) (i := i) (by omega); omega
    · exact hi
  have h3 := classLoop_sh C (s.size + 1) (t.size + 1) _ 0 (by have := C.le; omega) hi' x y h1
  have e : (if nx s i = 94 then i + d + 1 else i + d) = (if nx s i = 94 then i + 1 else i) + d := by split <;> omega
  rw [e, h3]
  injection h2 with h5 h6; subst h5; subst h6
  show R.ok _ _ = R.ok _ _
  congr 1; omega
theorem must_sh (C : Sh s t d) {c : Int} (hc : 0 ≤ c) {u : Unit} {j : Nat} (h : Rx.must s c i = .ok u j) : Rx.must t c (i + d) = .ok u (j + d) := by
  obtain ⟨h1, h2⟩ := must_ok h
  have hlt := nx_nonneg (s := s) (i := i) (by omega)
  unfold Rx.must at h ⊢
  rw [C.same i hlt]
  rw [if_pos h1] at h ⊢
  injection h with h5 h6; subst h6
  congr 1; omega
theorem number_sh (C : Sh s t d) {a : Int} {j : Nat} (h : Rx.number s i = .ok a j) : Rx.number t (i + d) = .ok a (j + d) := by
  have hb := number_bd h
  unfold Rx.number at h ⊢
  rw [show i + d + 1 = i + 1 + d by omega, C.dig (i := i) (by omega), C.dig (i := i + 1) (by omega), C.same i (by omega)]
  by_cases h0 : Rx.isDig (nx s i) = true
  · rw [if_pos h0] at h ⊢
    by_cases h1 : Rx.isDig (nx s (i + 1)) = true
    · have hlt : i + 1 < s.size := nx_nonneg (by simp [Rx.isDig] at h1; omega)
      rw [C.same (i + 1) hlt]
      rw [if_pos h1] at h ⊢
      split at h
      · rename_i hv
        rw [if_pos hv]; injection h with h5 h6; subst h5; subst h6
        congr 1; omega
      · cases h
    · rw [if_neg h1] at h ⊢
      injection h with h5 h6; subst h5; subst h6; rfl
  · rw [if_neg h0] at h; cases h
theorem bounds_sh (C : Sh s t d) {a : Int × Int} {j : Nat} (h : Rx.bounds s i = .ok a j) : Rx.bounds t (i + d) = .ok a (j + d) := by
  unfold Rx.bounds at h ⊢
  obtain ⟨m, y, h1, h2⟩ := bind_ok h
  have hb := number_bd h1
  rw [number_sh C h1]
  simp only [R.bind]
  simp only [C.is hb.2.2.2 (c := 44) (by omega) (by omega)]
  by_cases h44 : nx s y = 44
  · rw [if_pos h44] at h2 ⊢
    have hlt := nx_nonneg (s := s) (i := y) (by omega)
    rw [show y + d + 1 = y + 1 + d by omega]
    simp only [C.is (i := y + 1) hlt (c := 125) (by omega) (by omega)]
    by_cases h125 : nx s (y + 1) = 125
    · rw [if_pos h125] at h2 ⊢
      injection h2 with h5 h6; subst h5; subst h6; first | rfl | (congr 1; omega)
    · rw [if_neg h125] at h2 ⊢
      obtain ⟨n, z, h3, h4⟩ := bind_ok h2
      rw [number_sh C h3]
      simp only []
      split at h4
      · rename_i hle
        rw [if_pos hle]
        obtain ⟨u, z', h5, h6⟩ := bind_ok h4
        have h7 := must_sh C (by omega) h5
        rw [h7]
        injection h6 with h8 h9; subst h8; subst h9; rfl
      · cases h4
  · rw [if_neg h44] at h2 ⊢
    obtain ⟨u, z', h5, h6⟩ := bind_ok h2
    have h7 := must_sh C (by omega) h5
    rw [h7]
    injection h6 with h8 h9; subst h8; subst h9; rfl
/-- The readers of what stands in brackets. -/
def SubRel (p : Prop) (s : ByteArray) (d : Nat) : Option (Nat → R Nd) → Option (Nat → R Nd) → Prop
  | some alt, some alt' => (∀ i, nx s i ≠ 40) ∨ (p ∧ ∀ i, i ≤ s.size → Rel p d (alt i) (alt' (i + d)))
  | none, _ => True
  | some _, none => (∀ i, nx s i ≠ 40) ∨ p
variable {p : Prop} {sub sub' : Option (Nat → R Nd)}
theorem atom_sh (C : Sh s t d) (hs : SubRel p s d sub sub') (hi : i ≤ s.size) : Rel p d (Rx.atom s sub i) (Rx.atom t sub' (i + d)) := by
  unfold Rx.atom
  simp only [C.is hi (c := 40) (by omega) (by omega), C.is hi (c := 46) (by omega) (by omega), C.is hi (c := 91) (by omega) (by omega)]
  by_cases h40 : nx s i = 40
  · rw [if_pos h40, if_pos h40]
    have hlt := nx_nonneg (s := s) (i := i) (by omega)
    cases sub with
    | none => exact .bad
    | some alt =>
      cases sub' with
      | none =>
        rcases hs with hs | hs
        · exact absurd h40 (hs i)
        · exact fun a j _ => .inr ⟨hs, _, rfl⟩
      | some alt' =>
        rcases hs with hs | ⟨hp, hs⟩
        · exact absurd h40 (hs i)
        · simp only []
          rw [show i + d + 1 = i + 1 + d by omega]
          refine (hs (i + 1) hlt).bind fun n j _ => ?_
          exact (Rel.strong fun u k h => must_sh C (by omega) h).bind fun u k _ => .ok rfl
  · rw [if_neg h40, if_neg h40]
    by_cases h46 : nx s i = 46
    · rw [if_pos h46, if_pos h46]; exact .ok (by omega)
    rw [if_neg h46, if_neg h46]
    by_cases h91 : nx s i = 91
    · rw [if_pos h91, if_pos h91, show i + d + 1 = i + 1 + d by omega]
      have hlt := nx_nonneg (s := s) (i := i) (by omega)
      exact (Rel.strong fun a j h => cls_sh C hlt h).bind fun a j _ => .ok rfl
    · rw [if_neg h91, if_neg h91]
      exact (Rel.strong fun a j h => one_sh C h).bind fun a j _ => .ok rfl
theorem item_sh (C : Sh s t d) (hs : SubRel p s d sub sub') (hgo : SubGoes s sub) (hi : i ≤ s.size) : Rel p d (Rx.item s sub i) (Rx.item t sub' (i + d)) := by
  unfold Rx.item
  refine (atom_sh C hs hi).bind fun a j ha => ?_
  have hj := ((atom_goes hgo i hi).2 a j ha).2
  simp only [C.is hj (c := 42) (by omega) (by omega), C.is hj (c := 43) (by omega) (by omega), C.is hj (c := 63) (by omega) (by omega), C.is hj (c := 123) (by omega) (by omega)]
  by_cases h1 : nx s j = 42
  · rw [if_pos h1, if_pos h1]; exact .ok (by omega)
  rw [if_neg h1, if_neg h1]
  by_cases h2 : nx s j = 43
  · rw [if_pos h2, if_pos h2]; exact .ok (by omega)
  rw [if_neg h2, if_neg h2]
  by_cases h3 : nx s j = 63
  · rw [if_pos h3, if_pos h3]; exact .ok (by omega)
  rw [if_neg h3, if_neg h3]
  by_cases h4 : nx s j = 123
  · rw [if_pos h4, if_pos h4, show j + d + 1 = j + 1 + d by omega]
    exact (Rel.strong fun a j h => bounds_sh C h).bind fun b k _ => .ok rfl
  · rw [if_neg h4, if_neg h4]; exact .ok rfl
theorem catLoop_sh (C : Sh s t d) (hs : SubRel p s d sub sub') (hgo : SubGoes s sub) : ∀ (k k' i : Nat) (l : List Nd), k ≤ k' → i ≤ s.size → Rel p d (Rx.catLoop s sub k i l) (Rx.catLoop t sub' k' (i + d) l)
  | 0, _, _, _, _, _ => .out
  | k + 1, 0, _, _, hk, _ => by omega
  | k + 1, k' + 1, i, l, hk, hi => by
    unfold Rx.catLoop
    rw [C.ends hi]
    by_cases he : Rx.ends s i = true
    · rw [if_pos he, if_pos he]; exact .ok rfl
    · rw [if_neg he, if_neg he]
      refine (item_sh C hs hgo hi).bind fun n j hn => ?_
      exact catLoop_sh C hs hgo k k' j _ (by omega) ((item_goes hgo i hi).2 n j hn).2
theorem cat_sh (C : Sh s t d) (hs : SubRel p s d sub sub') (hgo : SubGoes s sub) (hi : i ≤ s.size) : Rel p d (Rx.cat s sub i) (Rx.cat t sub' (i + d)) := by
  unfold Rx.cat
  exact (catLoop_sh C hs hgo _ _ i [] (by have := C.le; omega) hi).bind fun l j _ => .ok rfl
theorem altLoop_sh (C : Sh s t d) (hs : SubRel p s d sub sub') (hgo : SubGoes s sub) : ∀ (k k' i : Nat) (l : List Nd), k ≤ k' → i ≤ s.size → Rel p d (Rx.altLoop s sub k i l) (Rx.altLoop t sub' k' (i + d) l)
  | 0, _, _, _, _, _ => .out
  | k + 1, 0, _, _, hk, _ => by omega
  | k + 1, k' + 1, i, l, hk, hi => by
    unfold Rx.altLoop
    simp only [C.is hi (c := 124) (by omega) (by omega)]
    by_cases he : nx s i = 124
    · rw [if_pos he, if_pos he, show i + d + 1 = i + 1 + d by omega]
      have hlt := nx_nonneg (s := s) (i := i) (by omega)
      refine (cat_sh C hs hgo hlt).bind fun n j hn => ?_
      exact altLoop_sh C hs hgo k k' j _ (by omega) ((cat_goes hgo (i + 1) hlt).2 n j hn).2
    · rw [if_neg he, if_neg he]; exact .ok rfl
theorem altF_sh (C : Sh s t d) (hs : SubRel p s d sub sub') (hgo : SubGoes s sub) (hi : i ≤ s.size) : Rel p d (Rx.altF s sub i) (Rx.altF t sub' (i + d)) := by
  unfold Rx.altF
  refine (cat_sh C hs hgo hi).bind fun n j hn => ?_
  have hj := ((cat_goes hgo i hi).2 n j hn).2
  exact (altLoop_sh C hs hgo _ _ j [n] (by have := C.le; omega) hj).bind fun l k _ => .ok rfl
end
theorem alt_sh {s t : ByteArray} {d : Nat} (C : Sh s t d) : ∀ (e e' i : Nat), i ≤ s.size → Rel True d (Rx.alt s e i) (Rx.alt t e' (i + d))
  | 0, 0, i, hi => by unfold Rx.alt; exact altF_sh (sub := none) C trivial trivial hi
  | 0, e' + 1, i, hi => by unfold Rx.alt; exact altF_sh (sub := none) C trivial trivial hi
  | e + 1, 0, i, hi => by unfold Rx.alt; exact altF_sh (sub := some (Rx.alt s e)) C (.inr trivial) (fun j hj => alt_goes s e j hj) hi
  | e + 1, e' + 1, i, hi => by
    unfold Rx.alt
    exact altF_sh (sub := some (Rx.alt s e)) C (.inr ⟨trivial, fun j hj => alt_sh C e e' j hj⟩) (fun j hj => alt_goes s e j hj) hi
/-- Without brackets: whatever number of them may stand open. -/
theorem alt_np {s t : ByteArray} {d : Nat} (C : Sh s t d) (hn : ∀ i, nx s i ≠ 40) (e e' i : Nat) (hi : i ≤ s.size) : Rel False d (Rx.alt s (e + 1) i) (Rx.alt t e' (i + d)) := by
  cases e' with
  | zero => unfold Rx.alt; exact altF_sh (sub := some (Rx.alt s e)) (sub' := none) C (.inl hn) (fun j hj => alt_goes s e j hj) hi
  | succ e' => unfold Rx.alt; exact altF_sh (sub := some (Rx.alt s e)) (sub' := some (Rx.alt t e')) C (.inl hn) (fun j hj => alt_goes s e j hj) hi
end Go.Proofs.Ytcphepjfnnbonaa
