/- Plain words of the automaton of expressions (nfa.Build): its states, how many, where they lead. No program in sight. The automaton of an expression goes over just what the expression matches. No program in sight. The automaton of rules accepts a rule behind a text just if the rule matches it. No program in sight. -/
import Derived.Test.YtldmdlkjpdfonaaNd2
namespace Go.Proofs.Ytldmdlkjpdfonaa
set_option linter.unusedVariables false
set_option linter.unusedSimpArgs false
section
/-- A state: its set, where it leads over a byte (-1: nowhere), what it accepts (-1: nothing), where it leads over nothing. -/
structure NS where
  set : Nat
  to : Int
  acc : Int
  eps : List Nat
def over (l : List Nat) : NS := ⟨0, -1, -1, l⟩
mutual
/-- An expression ahead of a state: the states, and the one at which it begins. -/
def nfaN : Nd → Nat → List NS → List NS × Nat
  | .mk k s _ _ l, next, st =>
    if k = 2 then (st ++ [⟨s, (next : Int), -1, []⟩], st.length)
    else if k = 3 then nfaCat l next st
    else if k = 4 then ((nfaAlt l next st).1 ++ [over (nfaAlt l next st).2], (nfaAlt l next st).1.length)
    else if k = 5 then ((nfaHead l st.length (st ++ [over []])).1.set st.length (over [(nfaHead l st.length (st ++ [over []])).2, next]), st.length)
    else (st, next)
def nfaCat : List Nd → Nat → List NS → List NS × Nat
  | [], next, st => (st, next)
  | a :: l, next, st => nfaN a (nfaCat l next st).2 (nfaCat l next st).1
def nfaAlt : List Nd → Nat → List NS → List NS × List Nat
  | [], _, st => (st, [])
  | a :: l, next, st => ((nfaAlt l next (nfaN a next st).1).1, (nfaN a next st).2 :: (nfaAlt l next (nfaN a next st).1).2)
def nfaHead : List Nd → Nat → List NS → List NS × Nat
  | [], next, st => (st, next)
  | a :: _, next, st => nfaN a next st
end
mutual
/-- How many states it takes. -/
def nfaLen : Nd → Nat
  | .mk k _ _ _ l => if k = 2 then 1 else if k = 3 then nfaLens l else if k = 4 then nfaLens l + 1 else if k = 5 then nfaLen1 l + 1 else 0
def nfaLens : List Nd → Nat
  | [] => 0
  | a :: l => nfaLen a + nfaLens l
def nfaLen1 : List Nd → Nat
  | [] => 0
  | a :: _ => nfaLen a
end
mutual
theorem nfaN_len : ∀ (n : Nd) (next : Nat) (st : List NS), (nfaN n next st).1.length = st.length + nfaLen n
  | .mk k s mn mx l, next, st => by
    unfold nfaN nfaLen
    by_cases h2 : k = 2
    · simp [h2]
    by_cases h3 : k = 3
    · rw [if_neg h2, if_pos h3, if_neg h2, if_pos h3]; exact nfaCat_len l next st
    by_cases h4 : k = 4
    · rw [if_neg h2, if_neg h3, if_pos h4, if_neg h2, if_neg h3, if_pos h4]
      simp only [List.length_append, List.length_cons, List.length_nil, nfaAlt_len l next st]
      omega
    by_cases h5 : k = 5
    · rw [if_neg h2, if_neg h3, if_neg h4, if_pos h5, if_neg h2, if_neg h3, if_neg h4, if_pos h5]
      simp only [List.length_set, nfaHead_len l st.length (st ++ [over []]), List.length_append, List.length_cons, List.length_nil]
      omega
    · rw [if_neg h2, if_neg h3, if_neg h4, if_neg h5, if_neg h2, if_neg h3, if_neg h4, if_neg h5]; rfl
theorem nfaCat_len : ∀ (l : List Nd) (next : Nat) (st : List NS), (nfaCat l next st).1.length = st.length + nfaLens l
  | [], next, st => rfl
  | a :: l, next, st => by
    simp only [nfaCat, nfaLens]
    rw [nfaN_len a, nfaCat_len l]
    omega
theorem nfaAlt_len : ∀ (l : List Nd) (next : Nat) (st : List NS), (nfaAlt l next st).1.length = st.length + nfaLens l
  | [], next, st => rfl
  | a :: l, next, st => by
    simp only [nfaAlt, nfaLens]
    rw [nfaAlt_len l, nfaN_len a]
    omega
theorem nfaHead_len : ∀ (l : List Nd) (next : Nat) (st : List NS), (nfaHead l next st).1.length = st.length + nfaLen1 l
  | [], next, st => rfl
  | a :: l, next, st => nfaN_len a next st
end
/-- All states lead to states that there are, or to next. -/
def Leads (m next : Nat) (x : NS) : Prop := (x.to = -1 ∨ ∃ t : Nat, x.to = t ∧ (t < m ∨ t = next)) ∧ ∀ e ∈ x.eps, e < m ∨ e = next
mutual
/-- What stood there stands; the rest is new; the beginning is new, or next. -/
theorem nfaN_pre : ∀ (n : Nd) (next : Nat) (st : List NS), (∃ more, (nfaN n next st).1 = st ++ more) ∧ (st.length ≤ (nfaN n next st).2 ∧ (nfaN n next st).2 < (nfaN n next st).1.length ∨ (nfaN n next st).2 = next)
  | .mk k s mn mx l, next, st => by
    unfold nfaN
    by_cases h2 : k = 2
    · rw [if_pos h2]; exact ⟨⟨_, rfl⟩, .inl ⟨Nat.le_refl _, by simp⟩⟩
    by_cases h3 : k = 3
    · rw [if_neg h2, if_pos h3]; exact nfaCat_pre l next st
    by_cases h4 : k = 4
    · rw [if_neg h2, if_neg h3, if_pos h4]
      obtain ⟨more, hm⟩ := nfaAlt_pre l next st
      refine ⟨⟨more ++ [over (nfaAlt l next st).2], by simp only [hm, List.append_assoc]⟩, .inl ⟨by simp only [hm, List.length_append]; omega, by simp⟩⟩
    by_cases h5 : k = 5
    · rw [if_neg h2, if_neg h3, if_neg h4, if_pos h5]
      obtain ⟨⟨more, hm⟩, _⟩ := nfaHead_pre l st.length (st ++ [over []])
      refine ⟨⟨over [(nfaHead l st.length (st ++ [over []])).2, next] :: more, ?_⟩, .inl ⟨Nat.le_refl _, ?_⟩⟩
      · simp only [hm, List.append_assoc, List.singleton_append]
        rw [List.set_append_right _ _ (Nat.le_refl _)]
        simp
      · simp only [List.length_set, hm, List.length_append, List.length_cons, List.length_nil]; omega
    · rw [if_neg h2, if_neg h3, if_neg h4, if_neg h5]; exact ⟨⟨[], by simp⟩, .inr rfl⟩
theorem nfaCat_pre : ∀ (l : List Nd) (next : Nat) (st : List NS), (∃ more, (nfaCat l next st).1 = st ++ more) ∧ (st.length ≤ (nfaCat l next st).2 ∧ (nfaCat l next st).2 < (nfaCat l next st).1.length ∨ (nfaCat l next st).2 = next)
  | [], next, st => ⟨⟨[], by simp [nfaCat]⟩, .inr rfl⟩
  | a :: l, next, st => by
    simp only [nfaCat]
    obtain ⟨⟨m1, h1⟩, h2⟩ := nfaCat_pre l next st
    obtain ⟨⟨m2, h3⟩, h4⟩ := nfaN_pre a (nfaCat l next st).2 (nfaCat l next st).1
    have hl1 := congrArg List.length h1
    have hl3 := congrArg List.length h3
    simp only [List.length_append] at hl1 hl3
    refine ⟨⟨m1 ++ m2, by rw [h3, h1, List.append_assoc]⟩, ?_⟩
    rcases h4 with h4 | h4
    · exact .inl ⟨by omega, h4.2⟩
    · rw [h4]
      rcases h2 with h2 | h2
      · exact .inl ⟨h2.1, by omega⟩
      · exact .inr h2
theorem nfaAlt_pre : ∀ (l : List Nd) (next : Nat) (st : List NS), ∃ more, (nfaAlt l next st).1 = st ++ more
  | [], next, st => ⟨[], by simp [nfaAlt]⟩
  | a :: l, next, st => by
    simp only [nfaAlt]
    obtain ⟨⟨m1, h1⟩, _⟩ := nfaN_pre a next st
    obtain ⟨m2, h2⟩ := nfaAlt_pre l next (nfaN a next st).1
    exact ⟨m1 ++ m2, by rw [h2, h1, List.append_assoc]⟩
theorem nfaHead_pre : ∀ (l : List Nd) (next : Nat) (st : List NS), (∃ more, (nfaHead l next st).1 = st ++ more) ∧ (st.length ≤ (nfaHead l next st).2 ∧ (nfaHead l next st).2 < (nfaHead l next st).1.length ∨ (nfaHead l next st).2 = next)
  | [], next, st => ⟨⟨[], by simp [nfaHead]⟩, .inr rfl⟩
  | a :: l, next, st => nfaN_pre a next st
end
end
section
inductive Star (R : Nat → Nat → Prop) : Nat → Nat → Prop
  | nil {i : Nat} : Star R i i
  | step {i j k : Nat} (h : R i j) (r : Star R j k) : Star R i k
/-- Does byte i of the text lie in a set? -/
def inS (s : ByteArray) (set i : Nat) : Prop := i < s.size ∧ set.testBit (nx s i).toNat = true
mutual
/-- An expression matches from a place to a place. -/
def Mt (s : ByteArray) : Nd → Nat → Nat → Prop
  | .mk k set _ _ l, i, j =>
    if k = 1 then i = j
    else if k = 2 then inS s set i ∧ j = i + 1
    else if k = 3 then MtCat s l i j
    else if k = 4 then MtAlt s l i j
    else if k = 5 then Star (MtHead s l) i j
    else False
def MtCat (s : ByteArray) : List Nd → Nat → Nat → Prop
  | [], i, j => i = j
  | a :: l, i, j => ∃ m, Mt s a i m ∧ MtCat s l m j
def MtAlt (s : ByteArray) : List Nd → Nat → Nat → Prop
  | [], _, _ => False
  | a :: l, i, j => Mt s a i j ∨ MtAlt s l i j
def MtHead (s : ByteArray) : List Nd → Nat → Nat → Prop
  | [], i, j => i = j
  | a :: _, i, j => Mt s a i j
end
theorem Mt_eq (s : ByteArray) (k : Int) (set : Nat) (mn mx : Int) (l : List Nd) : Mt s (.mk k set mn mx l) = fun i j =>
    if k = 1 then i = j else if k = 2 then inS s set i ∧ j = i + 1 else if k = 3 then MtCat s l i j else if k = 4 then MtAlt s l i j else if k = 5 then Star (MtHead s l) i j else False := by
  funext i j; rw [Mt]
theorem MtCat_nil (s : ByteArray) : MtCat s [] = fun i j => i = j := by funext i j; rw [MtCat]
theorem MtCat_cons (s : ByteArray) (a : Nd) (l : List Nd) : MtCat s (a :: l) = fun i j => ∃ m, Mt s a i m ∧ MtCat s l m j := by funext i j; rw [MtCat]
theorem MtAlt_nil (s : ByteArray) : MtAlt s [] = fun _ _ => False := by funext i j; rw [MtAlt]
theorem MtAlt_cons (s : ByteArray) (a : Nd) (l : List Nd) : MtAlt s (a :: l) = fun i j => Mt s a i j ∨ MtAlt s l i j := by funext i j; rw [MtAlt]
theorem MtHead_nil (s : ByteArray) : MtHead s [] = fun i j => i = j := by funext i j; rw [MtHead]
theorem MtHead_cons (s : ByteArray) (a : Nd) (l : List Nd) : MtHead s (a :: l) = Mt s a := by funext i j; rw [MtHead]
/-- A run of k steps: from a state and a place to a state and a place. -/
inductive Run (L : List NS) (s : ByteArray) : Nat → Nat → Nat → Nat → Nat → Prop
  | nil {q i : Nat} : Run L s 0 q i q i
  | eps {k q i e q' j : Nat} {x : NS} (hx : L[q]? = some x) (he : e ∈ x.eps) (r : Run L s k e i q' j) : Run L s (k + 1) q i q' j
  | byte {k q i t q' j : Nat} {x : NS} (hx : L[q]? = some x) (ht : x.to = (t : Int)) (hs : inS s x.set i) (r : Run L s k t (i + 1) q' j) : Run L s (k + 1) q i q' j
theorem Run.trans {L : List NS} {s : ByteArray} {k k' q i q' i' q'' i'' : Nat} (h : Run L s k q i q' i') (h' : Run L s k' q' i' q'' i'') : Run L s (k + k') q i q'' i'' := by
  induction h with
  | nil => rw [Nat.zero_add]; exact h'
  | eps hx he r ih => rw [Nat.add_right_comm]; exact .eps hx he (ih h')
  | byte hx ht hs r ih => rw [Nat.add_right_comm]; exact .byte hx ht hs (ih h')
/-- The states that were built since stand in the whole. -/
def Has (L : List NS) (st st' : List NS) : Prop := ∀ q, st.length ≤ q → q < st'.length → L[q]? = st'[q]?
mutual
/-- Kinds and parts as they may be. -/
def okN : Nd → Bool
  | .mk k _ _ _ l => (k == 1 || k == 2 || k == 3 || k == 4 || (k == 5 && l.length == 1)) && okNs l
def okNs : List Nd → Bool
  | [] => true
  | a :: l => okN a && okNs l
end
section
variable {L : List NS} {s : ByteArray}
/-- What an expression matches its states go over. -/
def Does (L : List NS) (s : ByteArray) (b next : Nat) (R : Nat → Nat → Prop) : Prop := ∀ i j, R i j → ∃ k, Run L s k b i next j
/-- .. and nothing else: out of them one comes by next alone. -/
def Only (L : List NS) (s : ByteArray) (lo hi b next : Nat) (R : Nat → Nat → Prop) : Prop :=
  ∀ k i q' j, Run L s k b i q' j → (q' < lo ∨ hi ≤ q') → ∃ m k', k' ≤ k ∧ R i m ∧ Run L s k' next m q' j
theorem Has.left {st st1 st' : List NS} (h : Has L st st') {more : List NS} (hm : st' = st1 ++ more) : Has L st st1 := fun q h1 h2 => by
  rw [h q h1 (by rw [hm, List.length_append]; omega), hm, List.getElem?_append_left h2]
theorem Has.right {st st1 st' : List NS} (h : Has L st st') (hl : st.length ≤ st1.length) : Has L st1 st' := fun q h1 h2 => h q (by omega) h2
theorem run_from {k q i q' j : Nat} {x : NS} (hx : L[q]? = some x) (r : Run L s k q i q' j) (hne : q ≠ q') : (∃ e k0, k = k0 + 1 ∧ e ∈ x.eps ∧ Run L s k0 e i q' j) ∨ ∃ t k0, k = k0 + 1 ∧ x.to = ((t : Nat) : Int) ∧ inS s x.set i ∧ Run L s k0 t (i + 1) q' j := by
  cases r with
  | nil => exact absurd rfl hne
  | eps hx' he r =>
    rw [hx] at hx'; injection hx' with hx'; subst hx'
    exact .inl ⟨_, _, rfl, he, r⟩
  | byte hx' ht hs r =>
    rw [hx] at hx'; injection hx' with hx'; subst hx'
    exact .inr ⟨_, _, rfl, ht, hs, r⟩
mutual
theorem nfaN_is : ∀ (n : Nd) (next : Nat) (st : List NS), okN n = true → next < st.length → Has L st (nfaN n next st).1 →
    Does L s (nfaN n next st).2 next (Mt s n) ∧ Only L s st.length (nfaN n next st).1.length (nfaN n next st).2 next (Mt s n)
  | .mk k set mn mx l, next, st, hok, hn, hL => by
    unfold okN at hok
    unfold nfaN at hL ⊢
    rw [Mt_eq]
    by_cases h1 : k = 1
    · subst h1
      rw [if_neg (by decide), if_neg (by decide), if_neg (by decide), if_neg (by decide)] at hL ⊢
      simp only [if_true]
      exact ⟨fun i j e => ⟨0, by rw [e]; exact .nil⟩, fun k i q' j r _ => ⟨i, k, Nat.le_refl _, rfl, r⟩⟩
    by_cases h2 : k = 2
    · subst h2
      rw [if_pos rfl] at hL ⊢
      simp only [if_neg (show ¬ (2 : Int) = 1 by decide), if_true]
      have hx : L[st.length]? = some ⟨set, (next : Int), -1, []⟩ := by rw [hL st.length (Nat.le_refl _) (by simp)]; simp
      refine ⟨fun i j ⟨h, e⟩ => ⟨1, by rw [e]; exact .byte hx rfl h .nil⟩, fun k i q' j r hq => ?_⟩
      have hne : st.length ≠ q' := by simp at hq; omega
      rcases run_from hx r hne with ⟨e, k0, rfl, he, r'⟩ | ⟨t, k0, rfl, ht, hs, r'⟩
      · cases he
      · simp only [Int.natCast_inj] at ht
        subst ht
        exact ⟨i + 1, k0, by omega, ⟨hs, rfl⟩, r'⟩
    by_cases h3 : k = 3
    · subst h3
      rw [if_neg (by decide), if_pos rfl] at hL ⊢
      simp only [if_neg (show ¬ (3 : Int) = 1 by decide), if_neg (show ¬ (3 : Int) = 2 by decide), if_true]
      exact nfaCat_is l next st (by simpa using (Bool.and_eq_true _ _ ▸ hok).2) hn hL
    by_cases h4 : k = 4
    · subst h4
      rw [if_neg (by decide), if_neg (by decide), if_pos rfl] at hL ⊢
      simp only [if_neg (show ¬ (4 : Int) = 1 by decide), if_neg (show ¬ (4 : Int) = 2 by decide), if_neg (show ¬ (4 : Int) = 3 by decide), if_true]
      obtain ⟨more, hm⟩ := nfaAlt_pre l next st
      have hl : st.length ≤ (nfaAlt l next st).1.length := by rw [hm, List.length_append]; omega
      obtain ⟨hd, ho⟩ := nfaAlt_is l next st (by simpa using (Bool.and_eq_true _ _ ▸ hok).2) hn (hL.left rfl)
      have hx : L[(nfaAlt l next st).1.length]? = some (over (nfaAlt l next st).2) := by rw [hL _ hl (by simp)]; simp
      refine ⟨fun i j h => ?_, fun k i q' j r hq => ?_⟩
      · obtain ⟨x, hx', k, r⟩ := hd i j h
        exact ⟨k + 1, .eps hx hx' r⟩
      · simp only [List.length_append, List.length_cons, List.length_nil] at hq
        rcases run_from hx r (by omega) with ⟨e, k0, rfl, he, r'⟩ | ⟨t, k0, rfl, ht, hs, r'⟩
        · obtain ⟨m, k', h1, h2, h3⟩ := ho e he k0 i q' j r' (by omega)
          exact ⟨m, k', by omega, h2, h3⟩
        · simp only [over] at ht; omega
    by_cases h5 : k = 5
    · subst h5
      rw [if_neg (by decide), if_neg (by decide), if_neg (by decide), if_pos rfl] at hL ⊢
      simp only [if_neg (show ¬ (5 : Int) = 1 by decide), if_neg (show ¬ (5 : Int) = 2 by decide), if_neg (show ¬ (5 : Int) = 3 by decide), if_neg (show ¬ (5 : Int) = 4 by decide), if_true]
      dsimp only at hL ⊢
      obtain ⟨⟨more, hm⟩, _⟩ := nfaHead_pre l st.length (st ++ [over []])
      have hlen := congrArg List.length hm
      simp only [List.length_append, List.length_cons, List.length_nil] at hlen
      have hsz : ((nfaHead l st.length (st ++ [over []])).1.set st.length (over [(nfaHead l st.length (st ++ [over []])).2, next])).length = (nfaHead l st.length (st ++ [over []])).1.length := List.length_set
      have hx : L[st.length]? = some (over [(nfaHead l st.length (st ++ [over []])).2, next]) := by
        rw [hL _ (Nat.le_refl _) (by omega)]
        rw [List.getElem?_set_self (by omega)]
      have hin : Has L (st ++ [over []]) (nfaHead l st.length (st ++ [over []])).1 := fun q h6 h7 => by
        simp only [List.length_append, List.length_cons, List.length_nil] at h6
        rw [hL q (by omega) (by omega), List.getElem?_set_ne (by omega)]
      have hok' := (Bool.and_eq_true _ _ ▸ hok).2
      obtain ⟨hd, ho⟩ := nfaHead_is l st.length (st ++ [over []]) (by simpa using hok') (by simp) hin
      refine ⟨fun i j h => ?_, fun k => ?_⟩
      · induction h with
        | nil => exact ⟨1, .eps hx (by simp [over]) .nil⟩
        | step h _ ih =>
          obtain ⟨k1, r1⟩ := hd _ _ h
          obtain ⟨k2, r2⟩ := ih
          exact ⟨k1 + k2 + 1, .eps hx (by simp [over]) (r1.trans r2)⟩
      · rw [hsz]
        induction k using Nat.strongRecOn with
        | ind k ih =>
          intro i q' j r hq
          rcases run_from hx r (by omega) with ⟨e, k0, rfl, he, r'⟩ | ⟨t, k0, rfl, ht, hs, r'⟩
          · simp only [over, List.mem_cons, List.not_mem_nil, or_false] at he
            rcases he with rfl | rfl
            · obtain ⟨m, k', h6, h7, h8⟩ := ho k0 i q' j r' (by simp only [List.length_append, List.length_cons, List.length_nil]; omega)
              obtain ⟨m2, k2, h9, h10, h11⟩ := ih k' (by omega) m q' j h8 hq
              exact ⟨m2, k2, by omega, .step h7 h10, h11⟩
            · exact ⟨i, k0, by omega, .nil, r'⟩
          · simp only [over] at ht; omega
    · simp [h1, h2, h3, h4, h5] at hok
theorem nfaCat_is : ∀ (l : List Nd) (next : Nat) (st : List NS), okNs l = true → next < st.length → Has L st (nfaCat l next st).1 →
    Does L s (nfaCat l next st).2 next (MtCat s l) ∧ Only L s st.length (nfaCat l next st).1.length (nfaCat l next st).2 next (MtCat s l)
  | [], next, st, _, hn, hL => by
    rw [MtCat_nil]
    simp only [nfaCat]
    exact ⟨fun i j e => ⟨0, by rw [e]; exact .nil⟩, fun k i q' j r _ => ⟨i, k, Nat.le_refl _, rfl, r⟩⟩
  | a :: l, next, st, hok, hn, hL => by
    unfold okNs at hok
    rw [Bool.and_eq_true] at hok
    rw [MtCat_cons]
    simp only [nfaCat] at hL ⊢
    obtain ⟨⟨m1, h1⟩, h2⟩ := nfaCat_pre l next st
    obtain ⟨⟨m2, h3⟩, h4⟩ := nfaN_pre a (nfaCat l next st).2 (nfaCat l next st).1
    have hl1 := congrArg List.length h1
    have hl3 := congrArg List.length h3
    simp only [List.length_append] at hl1 hl3
    obtain ⟨d1, o1⟩ := nfaCat_is l next st hok.2 hn (hL.left h3)
    obtain ⟨d2, o2⟩ := nfaN_is a (nfaCat l next st).2 (nfaCat l next st).1 hok.1 (by omega) (hL.right (by omega))
    refine ⟨fun i j ⟨m, h5, h6⟩ => ?_, fun k i q' j r hq => ?_⟩
    · obtain ⟨k1, r1⟩ := d2 i m h5
      obtain ⟨k2, r2⟩ := d1 m j h6
      exact ⟨_, r1.trans r2⟩
    · obtain ⟨m, k', h5, h6, h7⟩ := o2 k i q' j r (by omega)
      obtain ⟨m', k'', h8, h9, h10⟩ := o1 k' m q' j h7 (by omega)
      exact ⟨m', k'', by omega, ⟨m, h6, h9⟩, h10⟩
theorem nfaAlt_is : ∀ (l : List Nd) (next : Nat) (st : List NS), okNs l = true → next < st.length → Has L st (nfaAlt l next st).1 →
    (∀ i j, MtAlt s l i j → ∃ x ∈ (nfaAlt l next st).2, ∃ k, Run L s k x i next j) ∧
    (∀ x ∈ (nfaAlt l next st).2, Only L s st.length (nfaAlt l next st).1.length x next (MtAlt s l))
  | [], next, st, _, hn, hL => by
    rw [MtAlt_nil]
    simp only [nfaAlt]
    exact ⟨fun i j h => h.elim, fun x hx => by cases hx⟩
  | a :: l, next, st, hok, hn, hL => by
    unfold okNs at hok
    rw [Bool.and_eq_true] at hok
    rw [MtAlt_cons]
    simp only [nfaAlt] at hL ⊢
    obtain ⟨⟨m1, h1⟩, _⟩ := nfaN_pre a next st
    obtain ⟨m2, h2⟩ := nfaAlt_pre l next (nfaN a next st).1
    have hl1 := congrArg List.length h1
    have hl2 := congrArg List.length h2
    simp only [List.length_append] at hl1 hl2
    obtain ⟨d1, o1⟩ := nfaN_is a next st hok.1 hn (hL.left h2)
    obtain ⟨d2, o2⟩ := nfaAlt_is l next (nfaN a next st).1 hok.2 (by omega) (hL.right (by omega))
    refine ⟨fun i j h => ?_, fun x hx k i q' j r hq => ?_⟩
    · rcases h with h | h
      · obtain ⟨k, r⟩ := d1 i j h
        exact ⟨_, List.mem_cons_self, k, r⟩
      · obtain ⟨x, hx, k, r⟩ := d2 i j h
        exact ⟨x, List.mem_cons_of_mem _ hx, k, r⟩
    · rcases List.mem_cons.1 hx with rfl | hx
      · obtain ⟨m, k', h5, h6, h7⟩ := o1 k i q' j r (by omega)
        exact ⟨m, k', h5, .inl h6, h7⟩
      · obtain ⟨m, k', h5, h6, h7⟩ := o2 x hx k i q' j r (by omega)
        exact ⟨m, k', h5, .inr h6, h7⟩
theorem nfaHead_is : ∀ (l : List Nd) (next : Nat) (st : List NS), okNs l = true → next < st.length → Has L st (nfaHead l next st).1 →
    Does L s (nfaHead l next st).2 next (MtHead s l) ∧ Only L s st.length (nfaHead l next st).1.length (nfaHead l next st).2 next (MtHead s l)
  | [], next, st, _, hn, hL => by
    rw [MtHead_nil]
    simp only [nfaHead]
    exact ⟨fun i j e => ⟨0, by rw [e]; exact .nil⟩, fun k i q' j r _ => ⟨i, k, Nat.le_refl _, rfl, r⟩⟩
  | a :: l, next, st, hok, hn, hL => by
    unfold okNs at hok
    rw [Bool.and_eq_true] at hok
    rw [MtHead_cons]
    exact nfaN_is a next st hok.1 hn hL
end
end
end
section
mutual
theorem nfaN_acc : ∀ (n : Nd) (next : Nat) (st : List NS) (q : Nat) (x : NS), (nfaN n next st).1[q]? = some x → st.length ≤ q → x.acc = -1
  | .mk k set mn mx l, next, st, q, x, h, hq => by
    unfold nfaN at h
    by_cases h2 : k = 2
    · rw [if_pos h2] at h
      rw [List.getElem?_append_right hq] at h
      rcases Nat.eq_zero_or_pos (q - st.length) with h0 | h0
      · rw [h0] at h; simp at h; rw [← h]
      · rw [List.getElem?_eq_none (by simp; omega)] at h; cases h
    by_cases h3 : k = 3
    · rw [if_neg h2, if_pos h3] at h; exact nfaCat_acc l next st q x h hq
    by_cases h4 : k = 4
    · rw [if_neg h2, if_neg h3, if_pos h4] at h
      dsimp only at h
      rcases Nat.lt_or_ge q (nfaAlt l next st).1.length with h5 | h5
      · rw [List.getElem?_append_left h5] at h; exact nfaAlt_acc l next st q x h hq
      · rw [List.getElem?_append_right h5] at h
        rcases Nat.eq_zero_or_pos (q - (nfaAlt l next st).1.length) with h0 | h0
        · rw [h0] at h; simp at h; rw [← h]; rfl
        · rw [List.getElem?_eq_none (by simp; omega)] at h; cases h
    by_cases h5 : k = 5
    · rw [if_neg h2, if_neg h3, if_neg h4, if_pos h5] at h
      dsimp only at h
      by_cases h6 : q = st.length
      · subst h6
        have hlt := (List.getElem?_eq_some_iff.1 h).1
        rw [List.getElem?_set_self (by simpa using hlt)] at h
        injection h with h; rw [← h]; rfl
      · rw [List.getElem?_set_ne (by omega)] at h
        exact nfaHead_acc l st.length (st ++ [over []]) q x h (by simp; omega)
    · rw [if_neg h2, if_neg h3, if_neg h4, if_neg h5] at h
      rw [List.getElem?_eq_none hq] at h; cases h
theorem nfaCat_acc : ∀ (l : List Nd) (next : Nat) (st : List NS) (q : Nat) (x : NS), (nfaCat l next st).1[q]? = some x → st.length ≤ q → x.acc = -1
  | [], next, st, q, x, h, hq => by simp only [nfaCat] at h; rw [List.getElem?_eq_none hq] at h; cases h
  | a :: l, next, st, q, x, h, hq => by
    simp only [nfaCat] at h
    obtain ⟨⟨m2, h3⟩, _⟩ := nfaN_pre a (nfaCat l next st).2 (nfaCat l next st).1
    rcases Nat.lt_or_ge q (nfaCat l next st).1.length with h5 | h5
    · rw [h3, List.getElem?_append_left h5] at h; exact nfaCat_acc l next st q x h hq
    · exact nfaN_acc a _ _ q x h h5
theorem nfaAlt_acc : ∀ (l : List Nd) (next : Nat) (st : List NS) (q : Nat) (x : NS), (nfaAlt l next st).1[q]? = some x → st.length ≤ q → x.acc = -1
  | [], next, st, q, x, h, hq => by simp only [nfaAlt] at h; rw [List.getElem?_eq_none hq] at h; cases h
  | a :: l, next, st, q, x, h, hq => by
    simp only [nfaAlt] at h
    obtain ⟨m2, h3⟩ := nfaAlt_pre l next (nfaN a next st).1
    rcases Nat.lt_or_ge q (nfaN a next st).1.length with h5 | h5
    · rw [h3, List.getElem?_append_left h5] at h; exact nfaN_acc a next st q x h hq
    · exact nfaAlt_acc l next _ q x h h5
theorem nfaHead_acc : ∀ (l : List Nd) (next : Nat) (st : List NS) (q : Nat) (x : NS), (nfaHead l next st).1[q]? = some x → st.length ≤ q → x.acc = -1
  | [], next, st, q, x, h, hq => by simp only [nfaHead] at h; rw [List.getElem?_eq_none hq] at h; cases h
  | a :: l, next, st, q, x, h, hq => nfaN_acc a next st q x h hq
end
/-- The rules' states, and where each begins. -/
def nfaRules : List Nd → Nat → List NS → List NS × List Nat
  | [], _, st => (st, [])
  | n :: l, i, st => ((nfaRules l (i + 1) (nfaN n st.length (st ++ [⟨0, -1, (i : Int), []⟩])).1).1, (nfaN n st.length (st ++ [⟨0, -1, (i : Int), []⟩])).2 :: (nfaRules l (i + 1) (nfaN n st.length (st ++ [⟨0, -1, (i : Int), []⟩])).1).2)
/-- The automaton. -/
def nfaAll (l : List Nd) : List NS := (nfaRules l 0 [over []]).1.set 0 (over (nfaRules l 0 [over []]).2)
theorem nfaRules_pre : ∀ (l : List Nd) (i : Nat) (st : List NS), ∃ more, (nfaRules l i st).1 = st ++ more
  | [], i, st => ⟨[], by simp [nfaRules]⟩
  | n :: l, i, st => by
    simp only [nfaRules]
    obtain ⟨⟨m1, h1⟩, _⟩ := nfaN_pre n st.length (st ++ [⟨0, -1, (i : Int), []⟩])
    obtain ⟨m2, h2⟩ := nfaRules_pre l (i + 1) (nfaN n st.length (st ++ [⟨0, -1, (i : Int), []⟩])).1
    exact ⟨[⟨0, -1, (i : Int), []⟩] ++ m1 ++ m2, by rw [h2, h1]; simp⟩
/-- A rule's states do what they ought to. -/
def RuleOK (L : List NS) (s : ByteArray) (n : Nd) (i b : Nat) : Prop :=
  ∃ e lo hi, L[e]? = some ⟨0, -1, (i : Int), []⟩ ∧ Does L s b e (Mt s n) ∧ Only L s lo hi b e (Mt s n) ∧ ∀ q x, L[q]? = some x → lo ≤ q → q < hi → x.acc = -1
theorem rules_ok {L : List NS} {s : ByteArray} : ∀ (l : List Nd) (i : Nat) (st : List NS), (∀ n ∈ l, okN n = true) → Has L st (nfaRules l i st).1 →
    (nfaRules l i st).2.length = l.length ∧ ∀ (k b : Nat) (n : Nd), l[k]? = some n → (nfaRules l i st).2[k]? = some b → RuleOK L s n (i + k) b
  | [], i, st, _, _ => ⟨rfl, fun k b n h => by simp at h⟩
  | n :: l, i, st, hok, hL => by
    simp only [nfaRules] at hL ⊢
    obtain ⟨⟨m1, h1⟩, _⟩ := nfaN_pre n st.length (st ++ [⟨0, -1, (i : Int), []⟩])
    obtain ⟨m2, h2⟩ := nfaRules_pre l (i + 1) (nfaN n st.length (st ++ [⟨0, -1, (i : Int), []⟩])).1
    have hl1 := congrArg List.length h1
    have hl2 := congrArg List.length h2
    simp only [List.length_append, List.length_cons, List.length_nil] at hl1 hl2
    have hin : Has L (st ++ [⟨0, -1, (i : Int), []⟩]) (nfaN n st.length (st ++ [⟨0, -1, (i : Int), []⟩])).1 := (hL.left h2).right (by simp)
    obtain ⟨d, o⟩ := nfaN_is (s := s) n st.length (st ++ [⟨0, -1, (i : Int), []⟩]) (hok n List.mem_cons_self) (by simp) hin
    obtain ⟨hlen, hrest⟩ := rules_ok (L := L) (s := s) l (i + 1) (nfaN n st.length (st ++ [⟨0, -1, (i : Int), []⟩])).1 (fun m hm => hok m (List.mem_cons_of_mem _ hm)) (hL.right (by omega))
    refine ⟨by simp [hlen], fun k b m hk hb => ?_⟩
    cases k with
    | zero =>
      simp only [List.getElem?_cons_zero, Option.some.injEq] at hk hb
      subst hk; subst hb
      refine ⟨st.length, (st ++ [(⟨0, -1, (i : Int), []⟩ : NS)]).length, (nfaN n st.length (st ++ [⟨0, -1, (i : Int), []⟩])).1.length, ?_, d, o, fun q x hx h3 h4 => ?_⟩
      · rw [hL st.length (Nat.le_refl _) (by omega), h2, List.getElem?_append_left (by omega), h1, List.getElem?_append_left (by simp)]
        simp
      · rw [hin q h3 h4] at hx
        exact nfaN_acc n _ _ q x hx h3
    | succ k =>
      simp only [List.getElem?_cons_succ] at hk hb
      have := hrest k b m hk hb
      rwa [show i + 1 + k = i + (k + 1) by omega] at this
/-- The automaton accepts a rule behind a run. -/
def AccAt (L : List NS) (s : ByteArray) (i j k : Nat) : Prop := ∃ n q x, Run L s n 0 i q j ∧ L[q]? = some x ∧ x.acc = (k : Int)
theorem acc_iff {s : ByteArray} (l : List Nd) (hok : ∀ n ∈ l, okN n = true) (i j k : Nat) : AccAt (nfaAll l) s i j k ↔ ∃ n, l[k]? = some n ∧ Mt s n i j := by
  obtain ⟨more, hm⟩ := nfaRules_pre l 0 [over []]
  have hlen := congrArg List.length hm
  simp only [List.length_append, List.length_cons, List.length_nil] at hlen
  have h0 : (nfaAll l)[0]? = some (over (nfaRules l 0 [over []]).2) := by
    unfold nfaAll
    rw [List.getElem?_set_self (by omega)]
  have hHas : Has (nfaAll l) [over []] (nfaRules l 0 [over []]).1 := fun q h1 h2 => by
    unfold nfaAll
    simp only [List.length_cons, List.length_nil] at h1
    rw [List.getElem?_set_ne (by omega)]
  obtain ⟨hl, hr⟩ := rules_ok (L := nfaAll l) (s := s) l 0 [over []] hok hHas
  constructor
  · rintro ⟨n, q, x, r, hx, ha⟩
    have hq : 0 ≠ q := fun e => by
      subst e
      rw [h0] at hx; injection hx with hx; rw [← hx] at ha
      simp only [over] at ha; omega
    rcases run_from h0 r hq with ⟨e, k0, rfl, he, r'⟩ | ⟨t, k0, rfl, ht, hs, r'⟩
    · obtain ⟨k', hk'⟩ := List.mem_iff_getElem?.1 he
      have hlt : k' < l.length := by
        have h3 : k' < (nfaRules l 0 [over []]).2.length := (List.getElem?_eq_some_iff.1 hk').1
        omega
      obtain ⟨m, hm'⟩ : ∃ m, l[k']? = some m := ⟨_, List.getElem?_eq_getElem hlt⟩
      obtain ⟨f, lo, hi, hf, d, o, hacc⟩ := hr k' e m hm' hk'
      have hout : q < lo ∨ hi ≤ q := by
        rcases Nat.lt_or_ge q lo with h4 | h4
        · exact .inl h4
        · rcases Nat.lt_or_ge q hi with h5 | h5
          · have := hacc q x hx h4 h5; omega
          · exact .inr h5
      obtain ⟨p, k2, _, h6, h7⟩ := o k0 i q j r' hout
      have hend : f = q ∧ p = j := by
        cases h7 with
        | nil => exact ⟨rfl, rfl⟩
        | eps hx' he' _ => rw [hf] at hx'; injection hx' with hx'; rw [← hx'] at he'; cases he'
        | byte hx' ht' _ _ => rw [hf] at hx'; injection hx' with hx'; rw [← hx'] at ht'; simp only [] at ht'; omega
      obtain ⟨rfl, rfl⟩ := hend
      rw [hf] at hx; injection hx with hx
      have : k' = k := by rw [← hx] at ha; simp only [] at ha; omega
      subst this
      exact ⟨m, hm', h6⟩
    · simp only [over] at ht; omega
  · rintro ⟨m, hm', h6⟩
    have hlt : k < (nfaRules l 0 [over []]).2.length := by rw [hl]; exact (List.getElem?_eq_some_iff.1 hm').1
    obtain ⟨b, hb⟩ : ∃ b, (nfaRules l 0 [over []]).2[k]? = some b := ⟨_, List.getElem?_eq_getElem hlt⟩
    obtain ⟨f, lo, hi, hf, d, o, hacc⟩ := hr k b m hm' hb
    obtain ⟨n, r⟩ := d i j h6
    refine ⟨n + 1, f, _, .eps h0 (by simp only [over]; exact List.mem_of_getElem? hb) r, hf, by simp⟩
end
end Go.Proofs.Ytldmdlkjpdfonaa
