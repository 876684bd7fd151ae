/- Sets of places: the rounds of a repetition come to all places that it leads to. No program in sight. Sets of places: what an expression makes of a set is where its matches from there end. No program in sight. Runs of an automaton, byte by byte: over nothing, then over a byte and over nothing again. No program in sight. The best match, told in two orders: place by place, and rule by rule. No program in sight. -/
import Derived.Test.YtldmdlkjpdfonaaNfa3
namespace Go.Proofs.Ytldmdlkjpdfonaa
set_option linter.unusedVariables false
set_option linter.unusedSimpArgs false
section
/-- Does one of the second set stand outside the first one? -/
def news (N : Nat) (out now : Nat → Bool) : Bool := (List.range N).any fun j => now j && !out j
def repL (N : Nat) (f : (Nat → Bool) → (Nat → Bool)) : Nat → (Nat → Bool) → (Nat → Bool) → (Nat → Bool)
  | 0, out, _ => out
  | k + 1, out, now => if news N out now = true then repL N f k (fun j => out j || now j) (f now) else out
def cnt (N : Nat) (a : Nat → Bool) : Nat := (List.range N).countP a
theorem cnt_le (N : Nat) (a : Nat → Bool) : cnt N a ≤ N := by
  have := List.countP_le_length (p := a) (l := List.range N)
  simpa [cnt] using this
theorem countP_lt {p q : Nat → Bool} : ∀ {l : List Nat}, (∀ x ∈ l, p x = true → q x = true) → (∃ x ∈ l, q x = true ∧ p x = false) → l.countP p < l.countP q
  | [], _, ⟨x, hx, _⟩ => by cases hx
  | a :: l, h, ⟨x, hx, h1, h2⟩ => by
    have hle : l.countP p ≤ l.countP q := List.countP_mono_left fun y hy hp => h y (List.mem_cons_of_mem _ hy) hp
    rw [List.countP_cons, List.countP_cons]
    rcases List.mem_cons.1 hx with rfl | hx
    · rw [h1, h2]; simp; omega
    · have := countP_lt (p := p) (q := q) (l := l) (fun y hy hp => h y (List.mem_cons_of_mem _ hy) hp) ⟨x, hx, h1, h2⟩
      by_cases hp : p a = true
      · rw [if_pos hp, if_pos (h a List.mem_cons_self hp)]; omega
      · rw [if_neg hp]; split <;> omega
theorem Star.snoc {R : Nat → Nat → Prop} {i j k : Nat} (h : Star R i j) (r : R j k) : Star R i k := by
  induction h with
  | nil => exact .step r .nil
  | step h _ ih => exact .step h (ih r)
theorem repL_is {N : Nat} {R : Nat → Nat → Prop} {f : (Nat → Bool) → (Nat → Bool)} {at_ : Nat → Bool} (hf : ∀ a j, j < N → (f a j = true ↔ ∃ i, i < N ∧ a i = true ∧ R i j)) (hR : ∀ i j, i < N → R i j → j < N) :
    ∀ (k : Nat) (out now : Nat → Bool), N + 1 ≤ k + cnt N out →
      (∀ j, j < N → out j = true → ∃ i, i < N ∧ at_ i = true ∧ Star R i j) → (∀ j, j < N → now j = true → ∃ i, i < N ∧ at_ i = true ∧ Star R i j) →
      (∀ i j, i < N → out i = true → R i j → out j = true ∨ now j = true) → (∀ i, i < N → at_ i = true → out i = true ∨ now i = true) →
      ∀ j, j < N → (repL N f k out now j = true ↔ ∃ i, i < N ∧ at_ i = true ∧ Star R i j)
  | 0, out, now, hk, _, _, _, _, j, hj => by have := cnt_le N out; omega
  | k + 1, out, now, hk, h1, h2, h3, h4, j, hj => by
    unfold repL
    by_cases hn : news N out now = true
    · rw [if_pos hn]
      obtain ⟨x, hx, hx2⟩ := List.any_eq_true.1 hn
      have hxN : x < N := by simpa using hx
      simp only [Bool.and_eq_true, Bool.not_eq_true'] at hx2
      have hlt : cnt N out < cnt N (fun j => out j || now j) := countP_lt (fun y _ hy => by simp [hy]) ⟨x, hx, by simp [hx2.1], hx2.2⟩
      refine repL_is hf hR k _ _ (by omega) (fun y hy ho => ?_) (fun y hy hf' => ?_) (fun i y hi ho hr => ?_) (fun i hi ha => ?_) j hj
      · rcases (Bool.or_eq_true _ _ ▸ ho : out y = true ∨ now y = true) with h | h
        · exact h1 y hy h
        · exact h2 y hy h
      · obtain ⟨i, hi, hn', hr⟩ := (hf now y hy).1 hf'
        obtain ⟨i0, a, b, c⟩ := h2 i hi hn'
        exact ⟨i0, a, b, c.snoc hr⟩
      · have hyN := hR i y hi hr
        rcases (Bool.or_eq_true _ _ ▸ ho : out i = true ∨ now i = true) with h | h
        · left
          rcases h3 i y hi h hr with h' | h' <;> simp [h']
        · right
          exact (hf now y hyN).2 ⟨i, hi, h, hr⟩
      · left
        rcases h4 i hi ha with h | h <;> simp [h]
    · rw [if_neg hn]
      have hsub : ∀ y, y < N → now y = true → out y = true := fun y hy hy2 => by
        cases ho : out y with
        | true => rfl
        | false => exact absurd (List.any_eq_true.2 ⟨y, by simpa using hy, by simp [hy2, ho]⟩) hn
      have hcl : ∀ i y, Star R i y → i < N → out i = true → out y = true := fun i y h => by
        induction h with
        | nil => exact fun _ h => h
        | step hr _ ih =>
          intro hi ho
          have hyN := hR _ _ hi hr
          refine ih hyN ?_
          rcases h3 _ _ hi ho hr with h' | h'
          · exact h'
          · exact hsub _ hyN h'
      refine ⟨h1 j hj, fun ⟨i, hi, ha, hs⟩ => hcl i j hs hi ?_⟩
      rcases h4 i hi ha with h' | h'
      · exact h'
      · exact hsub i hi h'
end
section
def inB_ (s : ByteArray) (set i : Nat) : Bool := decide (i < s.size) && set.testBit (nx s i).toNat
theorem inB_is (s : ByteArray) (set i : Nat) : inB_ s set i = true ↔ inS s set i := by
  unfold inB_ inS
  rw [Bool.and_eq_true, decide_eq_true_eq]
mutual
def stepS (s : ByteArray) : Nd → (Nat → Bool) → Nat → Bool
  | .mk k set _ _ l, a =>
    if k = 1 then a
    else if k = 2 then fun j => match j with | 0 => false | i + 1 => a i && inB_ s set i
    else if k = 3 then stepCat s l a
    else if k = 4 then stepAlt s l a
    else if k = 5 then repL (s.size + 1) (stepHead s l) (s.size + 2) (fun _ => false) a
    else fun _ => false
def stepCat (s : ByteArray) : List Nd → (Nat → Bool) → Nat → Bool
  | [], a => a
  | n :: l, a => stepCat s l (stepS s n a)
def stepAlt (s : ByteArray) : List Nd → (Nat → Bool) → Nat → Bool
  | [], _ => fun _ => false
  | n :: l, a => fun j => stepS s n a j || stepAlt s l a j
def stepHead (s : ByteArray) : List Nd → (Nat → Bool) → Nat → Bool
  | [], a => a
  | n :: _, a => stepS s n a
end
/-- A function of sets goes along a relation, within the text. -/
def Goes_ (s : ByteArray) (R : Nat → Nat → Prop) (f : (Nat → Bool) → Nat → Bool) : Prop :=
  (∀ i j, i < s.size + 1 → R i j → j < s.size + 1) ∧ ∀ (a : Nat → Bool) (j : Nat), j < s.size + 1 → (f a j = true ↔ ∃ i, i < s.size + 1 ∧ a i = true ∧ R i j)
theorem goes_same (s : ByteArray) : Goes_ s (fun i j => i = j) (fun a => a) :=
  ⟨fun i j h e => by omega, fun a j hj => ⟨fun h => ⟨j, hj, h, rfl⟩, fun ⟨i, _, h, e⟩ => by subst e; exact h⟩⟩
mutual
theorem stepS_is (s : ByteArray) : ∀ n : Nd, okN n = true → Goes_ s (Mt s n) (stepS s n)
  | .mk k set mn mx l, hok => by
    unfold okN at hok
    have hokl : okNs l = true := by simpa using (Bool.and_eq_true _ _ ▸ hok).2
    rw [Mt_eq]
    have he : stepS s (.mk k set mn mx l) = fun a => if k = 1 then a else if k = 2 then (fun j => match j with | 0 => false | i + 1 => a i && inB_ s set i) else if k = 3 then stepCat s l a else if k = 4 then stepAlt s l a
      else if k = 5 then repL (s.size + 1) (stepHead s l) (s.size + 2) (fun _ => false) a else fun _ => false := by funext a; rw [stepS]
    rw [he]
    by_cases h1 : k = 1
    · simp only [h1, if_true]; exact goes_same s
    by_cases h2 : k = 2
    · simp only [h1, h2, if_true, if_false, if_neg (show ¬ (2 : Int) = 1 by decide)]
      refine ⟨fun i j hi ⟨⟨h, _⟩, e⟩ => by omega, fun a j hj => ?_⟩
      cases j with
      | zero => exact ⟨fun h => (by cases h), fun ⟨i, _, _, _, e⟩ => by omega⟩
      | succ j =>
        simp only [Bool.and_eq_true, inB_is]
        constructor
        · rintro ⟨h, h'⟩; exact ⟨j, by omega, h, h', rfl⟩
        · rintro ⟨i, _, h, h', e⟩
          obtain rfl : i = j := by omega
          exact ⟨h, h'⟩
    by_cases h3 : k = 3
    · simp only [h3, if_true, if_neg (show ¬ (3 : Int) = 1 by decide), if_neg (show ¬ (3 : Int) = 2 by decide)]
      exact stepCat_is s l hokl
    by_cases h4 : k = 4
    · simp only [h4, if_true, if_neg (show ¬ (4 : Int) = 1 by decide), if_neg (show ¬ (4 : Int) = 2 by decide), if_neg (show ¬ (4 : Int) = 3 by decide)]
      exact stepAlt_is s l hokl
    by_cases h5 : k = 5
    · simp only [h5, if_true, if_neg (show ¬ (5 : Int) = 1 by decide), if_neg (show ¬ (5 : Int) = 2 by decide), if_neg (show ¬ (5 : Int) = 3 by decide), if_neg (show ¬ (5 : Int) = 4 by decide)]
      obtain ⟨hr, hf⟩ := stepHead_is s l hokl
      refine ⟨fun i j hi h => ?_, fun a j hj => ?_⟩
      · induction h with
        | nil => exact hi
        | step h _ ih => exact ih (hr _ _ hi h)
      · exact repL_is (N := s.size + 1) (R := MtHead s l) (at_ := a) hf hr (s.size + 2) (fun _ => false) a (by omega) (fun _ _ h => by cases h) (fun j hj h => ⟨j, hj, h, .nil⟩) (fun _ _ _ h => by cases h) (fun i _ h => .inr h) j hj
    · simp [h1, h2, h3, h4, h5] at hok
theorem stepCat_is (s : ByteArray) : ∀ l : List Nd, okNs l = true → Goes_ s (MtCat s l) (stepCat s l)
  | [], _ => by
    rw [MtCat_nil]
    have he : stepCat s [] = fun a => a := by funext a; rw [stepCat]
    rw [he]; exact goes_same s
  | n :: l, hok => by
    unfold okNs at hok
    rw [Bool.and_eq_true] at hok
    rw [MtCat_cons]
    have he : stepCat s (n :: l) = fun a => stepCat s l (stepS s n a) := by funext a; rw [stepCat]
    rw [he]
    obtain ⟨r1, f1⟩ := stepS_is s n hok.1
    obtain ⟨r2, f2⟩ := stepCat_is s l hok.2
    refine ⟨fun i j hi ⟨m, h, h'⟩ => r2 _ _ (r1 _ _ hi h) h', fun a j hj => ?_⟩
    rw [f2 _ j hj]
    constructor
    · rintro ⟨m, hm, h, h'⟩
      obtain ⟨i, hi, h1, h2⟩ := (f1 a m hm).1 h
      exact ⟨i, hi, h1, m, h2, h'⟩
    · rintro ⟨i, hi, h1, m, h2, h'⟩
      have hm := r1 _ _ hi h2
      exact ⟨m, hm, (f1 a m hm).2 ⟨i, hi, h1, h2⟩, h'⟩
theorem stepAlt_is (s : ByteArray) : ∀ l : List Nd, okNs l = true → Goes_ s (MtAlt s l) (stepAlt s l)
  | [], _ => by
    rw [MtAlt_nil]
    have he : stepAlt s [] = fun _ _ => false := by funext a; rw [stepAlt]
    rw [he]
    exact ⟨fun _ _ _ h => h.elim, fun a j _ => ⟨fun h => (by cases h), fun ⟨_, _, _, h⟩ => h.elim⟩⟩
  | n :: l, hok => by
    unfold okNs at hok
    rw [Bool.and_eq_true] at hok
    rw [MtAlt_cons]
    have he : stepAlt s (n :: l) = fun a j => stepS s n a j || stepAlt s l a j := by funext a; rw [stepAlt]
    rw [he]
    obtain ⟨r1, f1⟩ := stepS_is s n hok.1
    obtain ⟨r2, f2⟩ := stepAlt_is s l hok.2
    refine ⟨fun i j hi h => by rcases h with h | h; exact r1 _ _ hi h; exact r2 _ _ hi h, fun a j hj => ?_⟩
    rw [Bool.or_eq_true, f1 a j hj, f2 a j hj]
    constructor
    · rintro (⟨i, hi, h, h'⟩ | ⟨i, hi, h, h'⟩)
      · exact ⟨i, hi, h, .inl h'⟩
      · exact ⟨i, hi, h, .inr h'⟩
    · rintro ⟨i, hi, h, h' | h'⟩
      · exact .inl ⟨i, hi, h, h'⟩
      · exact .inr ⟨i, hi, h, h'⟩
theorem stepHead_is (s : ByteArray) : ∀ l : List Nd, okNs l = true → Goes_ s (MtHead s l) (stepHead s l)
  | [], _ => by
    rw [MtHead_nil]
    have he : stepHead s [] = fun a => a := by funext a; rw [stepHead]
    rw [he]; exact goes_same s
  | n :: l, hok => by
    unfold okNs at hok
    rw [Bool.and_eq_true] at hok
    rw [MtHead_cons]
    have he : stepHead s (n :: l) = stepS s n := by funext a; rw [stepHead]
    rw [he]; exact stepS_is s n hok.1
end
end
section
/-- Over nothing, one step. -/
def Eps (L : List NS) (q q' : Nat) : Prop := ∃ x, L[q]? = some x ∧ q' ∈ x.eps
/-- Over byte j. -/
def Over (L : List NS) (s : ByteArray) (j p t : Nat) : Prop := ∃ x, L[p]? = some x ∧ x.to = (t : Int) ∧ inS s x.set j
def Reach (L : List NS) (s : ByteArray) (q i q' j : Nat) : Prop := ∃ n, Run L s n q i q' j
section
variable {L : List NS} {s : ByteArray}
theorem Run.le {n q i q' j : Nat} (h : Run L s n q i q' j) : i ≤ j := by
  induction h with
  | nil => exact Nat.le_refl _
  | eps _ _ _ ih => exact ih
  | byte _ _ _ _ ih => omega
theorem run_here {n q i q' j : Nat} (h : Run L s n q i q' j) (e : i = j) : Star (Eps L) q q' := by
  induction h with
  | nil => exact .nil
  | eps hx he _ ih => exact .step ⟨_, hx, he⟩ (ih e)
  | byte _ _ _ r _ => have := r.le; omega
theorem star_run {q q' : Nat} (h : Star (Eps L) q q') (i : Nat) : Reach L s q i q' i := by
  induction h with
  | nil => exact ⟨0, .nil⟩
  | step h _ ih =>
    obtain ⟨x, hx, he⟩ := h
    obtain ⟨n, r⟩ := ih
    exact ⟨n + 1, .eps hx he r⟩
theorem reach_zero (q i q' : Nat) : Reach L s q i q' i ↔ Star (Eps L) q q' := ⟨fun ⟨_, r⟩ => run_here r rfl, fun h => star_run h i⟩
theorem run_last {n q i q' k : Nat} (h : Run L s n q i q' k) : ∀ j, k = j + 1 → i ≤ j → ∃ p t, Reach L s q i p j ∧ Over L s j p t ∧ Star (Eps L) t q' := by
  induction h with
  | nil => intro j e h; omega
  | eps hx he r ih =>
    intro j e h
    obtain ⟨p, t, ⟨n, r1⟩, h2, h3⟩ := ih j e h
    exact ⟨p, t, ⟨n + 1, .eps hx he r1⟩, h2, h3⟩
  | @byte n q i t q' k x hx ht hs r ih =>
    intro j e h
    rcases Nat.eq_or_lt_of_le h with h1 | h1
    · subst h1
      exact ⟨q, t, ⟨0, .nil⟩, ⟨x, hx, ht, hs⟩, run_here r e.symm⟩
    · obtain ⟨p, t', ⟨n, r1⟩, h2, h3⟩ := ih j e h1
      exact ⟨p, t', ⟨n + 1, .byte hx ht hs r1⟩, h2, h3⟩
theorem reach_succ {q i q' j : Nat} (hij : i ≤ j) : Reach L s q i q' (j + 1) ↔ ∃ p t, Reach L s q i p j ∧ Over L s j p t ∧ Star (Eps L) t q' := by
  constructor
  · rintro ⟨n, r⟩; exact run_last r j rfl hij
  · rintro ⟨p, t, ⟨n, r⟩, ⟨x, hx, ht, hs⟩, h3⟩
    obtain ⟨m, r2⟩ := star_run (s := s) h3 (j + 1)
    exact ⟨_, r.trans (.byte hx ht hs r2)⟩
end
/-- The rules' automaton, by sets of states: rule k is accepted there just if the rule's own set of places has the place. -/
theorem accepts_iff {s : ByteArray} (l : List Nd) (hok : ∀ n ∈ l, okN n = true) (i j k : Nat) (hi : i < s.size + 1) (hj : j < s.size + 1) :
    (∃ q x, Reach (nfaAll l) s 0 i q j ∧ (nfaAll l)[q]? = some x ∧ x.acc = (k : Int)) ↔ ∃ n, l[k]? = some n ∧ stepS s n (fun p => decide (p = i)) j = true := by
  have h := acc_iff (s := s) l hok i j k
  constructor
  · rintro ⟨q, x, ⟨n, r⟩, hx, ha⟩
    obtain ⟨m, hm, hmt⟩ := h.1 ⟨n, q, x, r, hx, ha⟩
    exact ⟨m, hm, ((stepS_is s m (hok m (List.mem_of_getElem? hm))).2 _ j hj).2 ⟨i, hi, by simp, hmt⟩⟩
  · rintro ⟨m, hm, hst⟩
    obtain ⟨p, _, hp, hmt⟩ := ((stepS_is s m (hok m (List.mem_of_getElem? hm))).2 _ j hj).1 hst
    simp only [decide_eq_true_eq] at hp
    subst hp
    obtain ⟨n, q, x, r, hx, ha⟩ := h.2 ⟨m, hm, hmt⟩
    exact ⟨q, x, ⟨n, r⟩, hx, ha⟩
end
section
/-- Of the rules below len and the places behind from, up to top: the greatest place that one has, and the first rule that has it. -/
def Best (M : Nat → Nat → Bool) (len start top : Nat) (r : Int × Int) : Prop :=
  (r = (-1, -1) ∧ ∀ k j, k < len → start < j → j ≤ top → M k j = false) ∨
  ∃ k j : Nat, r = ((k : Int), (j : Int)) ∧ k < len ∧ start < j ∧ j ≤ top ∧ M k j = true ∧ (∀ k', k' < k → M k' j = false) ∧ ∀ k' j', k' < len → j < j' → j' ≤ top → M k' j' = false
variable {M : Nat → Nat → Bool} {len start top : Nat} {r r' : Int × Int}
theorem Best.unique (h : Best M len start top r) (h' : Best M len start top r') : r = r' := by
  rcases h with ⟨rfl, h⟩ | ⟨k, j, rfl, h1, h2, h3, h4, h5, h6⟩
  · rcases h' with ⟨rfl, _⟩ | ⟨k, j, rfl, g1, g2, g3, g4, g5, g6⟩
    · rfl
    · rw [h k j g1 g2 g3] at g4; cases g4
  · rcases h' with ⟨rfl, h'⟩ | ⟨k', j', rfl, g1, g2, g3, g4, g5, g6⟩
    · rw [h' k j h1 h2 h3] at h4; cases h4
    · have hj : j = j' := by
        rcases Nat.lt_trichotomy j j' with h | h | h
        · rw [h6 k' j' g1 h g3] at g4; cases g4
        · exact h
        · rw [g6 k j h1 h h3] at h4; cases h4
      subst hj
      have hk : k = k' := by
        rcases Nat.lt_trichotomy k k' with h | h | h
        · rw [g5 k h] at h4; cases h4
        · exact h
        · rw [h5 k' h] at g4; cases g4
      subst hk
      rfl
/-- Place by place: nothing yet. -/
theorem Best.start_ : Best M len start start (-1, -1) := .inl ⟨rfl, fun k j _ h1 h2 => by omega⟩
/-- .. no rule has the next place. -/
theorem Best.none_ (h : Best M len start top r) (hn : ∀ k, k < len → M k (top + 1) = false) : Best M len start (top + 1) r := by
  rcases h with ⟨rfl, h⟩ | ⟨k, j, rfl, h1, h2, h3, h4, h5, h6⟩
  · refine .inl ⟨rfl, fun k j hk h1 h2 => ?_⟩
    rcases Nat.lt_or_ge top j with h3 | h3
    · obtain rfl : j = top + 1 := by omega
      exact hn k hk
    · exact h k j hk h1 h3
  · refine .inr ⟨k, j, rfl, h1, h2, by omega, h4, h5, fun k' j' hk' g1 g2 => ?_⟩
    rcases Nat.lt_or_ge top j' with h7 | h7
    · obtain rfl : j' = top + 1 := by omega
      exact hn k' hk'
    · exact h6 k' j' hk' g1 h7
/-- .. this one is the first that has it. -/
theorem Best.some_ {k : Nat} (hs : start ≤ top) (hk : k < len) (hm : M k (top + 1) = true) (hf : ∀ k', k' < k → M k' (top + 1) = false) : Best M len start (top + 1) ((k : Int), ((top + 1 : Nat) : Int)) :=
  .inr ⟨k, top + 1, rfl, hk, by omega, Nat.le_refl _, hm, hf, fun k' j' _ h1 h2 => by omega⟩
/-- Rule by rule: none yet. -/
theorem Best.zero : Best M 0 start top (-1, -1) := .inl ⟨rfl, fun k j h => by omega⟩
/-- .. the next rule has no place that is greater. e: its greatest place; -1: none. -/
theorem Best.keep {e : Int} (h : Best M len start top r) (he : ∀ j, j ≤ top → M len j = true → (j : Int) ≤ e) (hle : e ≤ start ∨ e ≤ r.2) : Best M (len + 1) start top r := by
  rcases h with ⟨rfl, h⟩ | ⟨k, j, rfl, h1, h2, h3, h4, h5, h6⟩
  · refine .inl ⟨rfl, fun k j hk h1 h2 => ?_⟩
    rcases Nat.lt_or_ge k len with h3 | h3
    · exact h k j h3 h1 h2
    · obtain rfl : k = len := by omega
      cases hm : M k j with
      | false => rfl
      | true => have := he j h2 hm; simp only [] at hle; omega
  · refine .inr ⟨k, j, rfl, by omega, h2, h3, h4, h5, fun k' j' hk' g1 g2 => ?_⟩
    rcases Nat.lt_or_ge k' len with h7 | h7
    · exact h6 k' j' h7 g1 g2
    · obtain rfl : k' = len := by omega
      cases hm : M k' j' with
      | false => rfl
      | true => have := he j' g2 hm; simp only [] at hle; omega
/-- .. it has a greater one. -/
theorem Best.take {e : Nat} (h : Best M len start top r) (he : ∀ j, j ≤ top → M len j = true → j ≤ e) (hm : M len e = true) (het : e ≤ top) (hs : start < e) (hr : r.2 < (e : Int)) : Best M (len + 1) start top ((len : Int), (e : Int)) := by
  refine .inr ⟨len, e, rfl, by omega, hs, het, hm, fun k' hk' => ?_, fun k' j' hk' g1 g2 => ?_⟩
  · rcases h with ⟨rfl, h⟩ | ⟨k, j, rfl, h1, h2, h3, h4, h5, h6⟩
    · exact h k' e hk' hs het
    · simp only [] at hr
      exact h6 k' e hk' (by omega) het
  · rcases Nat.lt_or_ge k' len with h7 | h7
    · rcases h with ⟨rfl, h⟩ | ⟨k, j, rfl, h1, h2, h3, h4, h5, h6⟩
      · exact h k' j' h7 (by omega) g2
      · simp only [] at hr
        exact h6 k' j' h7 (by omega) g2
    · obtain rfl : k' = len := by omega
      cases hm' : M k' j' with
      | false => rfl
      | true => have := he j' g2 hm'; omega
end
end Go.Proofs.Ytldmdlkjpdfonaa
