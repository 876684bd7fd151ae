/- Plain words of the meter, and of the builder of an automaton: what each does, exactly; the builder builds the automaton's states, or a limit is met. No program in sight. -/
import Derived.Test.YtldmdlkjpdfonaaNfa3
namespace Go.Proofs.Ytldmdlkjpdfonaa
set_option linter.unusedVariables false
set_option linter.unusedSimpArgs false

structure Mtr where
  used : Int
  most : Int
  cells : Int
  done : Int
  steps : Int
  e : Int
structure Bst where
  m : Option Mtr
  st : List NS
  e : Int
def Mtr.refuse (m : Mtr) (e : Int) : Mtr := { m with e := if m.e = 0 then e else m.e }
/-- Its numbers are as they may be. -/
def Mtr.fits (m : Mtr) : Prop := 0 ≤ m.used ∧ m.used ≤ m.cells ∧ m.cells ≤ 1048576 ∧ 0 ≤ m.done ∧ m.done ≤ m.steps ∧ m.steps ≤ 1073741824
def Mtr.take (m : Mtr) (n : Int) : Bool × Mtr :=
  if n < 0 then (false, m) else if m.cells - m.used < n then (false, m.refuse 3) else (true, { m with used := m.used + n, most := max m.most (m.used + n) })
def Mtr.give (m : Mtr) (n : Int) : Bool × Mtr := if n < 0 ∨ m.used < n then (false, m) else (true, { m with used := m.used - n })
def Mtr.step (m : Mtr) (n : Int) : Bool × Mtr := if n < 0 then (false, m) else if m.steps - m.done < n then (false, m.refuse 4) else (true, { m with done := m.done + n })
def Bst.add (b : Bst) (x : NS) : Bst × Nat :=
  if b.e = 0 then
    match b.m with
    | none => ({ b with st := b.st ++ [x] }, b.st.length)
    | some m =>
      if (m.take 1).1 = true then
        if ((m.take 1).2.step 1).1 = true then ({ b with m := some ((m.take 1).2.step 1).2, st := b.st ++ [x] }, b.st.length)
        else ({ b with m := some (((m.take 1).2.step 1).2.give 1).2, e := 4 }, 0)
      else ({ b with m := some (m.take 1).2, e := 3 }, 0)
  else (b, 0)
mutual
def nodeB : Nd → Nat → Bst → Bst × Nat
  | .mk k s _ _ l, next, b =>
    if b.e = 0 then
      if k = 2 then b.add ⟨s, (next : Int), -1, []⟩
      else if k = 3 then catB l next b
      else if k = 4 then (altB l next b).1.add (over (altB l next b).2)
      else if k = 5 then
        (if (headB l (b.add (over [])).2 (b.add (over [])).1).1.e = 0 then
          { (headB l (b.add (over [])).2 (b.add (over [])).1).1 with st := (headB l (b.add (over [])).2 (b.add (over [])).1).1.st.set (b.add (over [])).2 (over [(headB l (b.add (over [])).2 (b.add (over [])).1).2, next]) }
        else (headB l (b.add (over [])).2 (b.add (over [])).1).1, (b.add (over [])).2)
      else (b, next)
    else (b, 0)
def catB : List Nd → Nat → Bst → Bst × Nat
  | [], next, b => (b, next)
  | a :: l, next, b => nodeB a (catB l next b).2 (catB l next b).1
def altB : List Nd → Nat → Bst → Bst × List Nat
  | [], _, b => (b, [])
  | a :: l, next, b => ((altB l next (nodeB a next b).1).1, (nodeB a next b).2 :: (altB l next (nodeB a next b).1).2)
def headB : List Nd → Nat → Bst → Bst × Nat
  | [], next, b => (b, next)
  | a :: _, next, b => nodeB a next b
end
def rulesB : List Nd → Nat → Bst → List Nat → Bst × List Nat
  | [], _, b, eps => (b, eps)
  | n :: l, i, b, eps => rulesB l (i + 1) (nodeB n (b.add ⟨0, -1, (i : Int), []⟩).2 (b.add ⟨0, -1, (i : Int), []⟩).1).1
      (if (nodeB n (b.add ⟨0, -1, (i : Int), []⟩).2 (b.add ⟨0, -1, (i : Int), []⟩).1).1.e = 0 then eps ++ [(nodeB n (b.add ⟨0, -1, (i : Int), []⟩).2 (b.add ⟨0, -1, (i : Int), []⟩).1).2] else eps)
/-- What fits still fits. -/
def Fits : Option Mtr → Prop
  | none => True
  | some m => m.fits
/-- k cells and steps more. -/
def Adv : Option Mtr → Option Mtr → Nat → Prop
  | none, none, _ => True
  | some m, some m', k => m'.used = m.used + k ∧ m'.done = m.done + k ∧ m'.cells = m.cells ∧ m'.steps = m.steps ∧ m'.e = m.e ∧ m'.fits
  | _, _, _ => False
/-- A limit was met behind k states, fewer than L. -/
def Full (b b' : Bst) (L : Nat) : Prop :=
  ∃ m m' k, b.m = some m ∧ b'.m = some m' ∧ k < L ∧ b'.st.length = b.st.length + k ∧ m'.used = m.used + k ∧ m'.done = m.done + k ∧ m'.cells = m.cells ∧ m'.steps = m.steps ∧ m'.fits ∧
    (m'.used = m'.cells ∧ b'.e = 3 ∨ m'.used < m'.cells ∧ m'.done = m'.steps ∧ b'.e = 4)
theorem Full.dead {b b' : Bst} {L : Nat} (h : Full b b' L) : b'.e ≠ 0 := by
  obtain ⟨m, m', k, _, _, _, _, _, _, _, _, _, h | h⟩ := h <;> omega
theorem Full.lt {b b' : Bst} {L L' : Nat} (h : Full b b' L) (hl : L ≤ L') : Full b b' L' := by
  obtain ⟨m, m', k, h1, h2, h3, h4⟩ := h
  exact ⟨m, m', k, h1, h2, by omega, h4⟩
theorem Adv.fits : ∀ {m m' : Option Mtr} {k : Nat}, Adv m m' k → Fits m'
  | none, none, _, _ => trivial
  | some _, some _, _, h => h.2.2.2.2.2
  | none, some _, _, h => h.elim
  | some _, none, _, h => h.elim
theorem Adv.zero : ∀ {m : Option Mtr}, Fits m → Adv m m 0
  | none, _ => trivial
  | some m, h => ⟨by omega, by omega, rfl, rfl, rfl, h⟩
theorem Adv.trans : ∀ {m m' m'' : Option Mtr} {k k' : Nat}, Adv m m' k → Adv m' m'' k' → Adv m m'' (k + k')
  | none, none, none, _, _, _, _ => trivial
  | some _, some _, some _, k, k', ⟨a1, a2, a3, a4, a5, a6⟩, ⟨b1, b2, b3, b4, b5, b6⟩ => ⟨by omega, by omega, by omega, by omega, by omega, b6⟩
  | none, some _, _, _, _, h, _ => h.elim
  | some _, none, _, _, _, h, _ => h.elim
  | none, none, some _, _, _, _, h => h.elim
  | some _, some _, none, _, _, _, h => h.elim
theorem Adv.full {b b1 b' : Bst} {k L : Nat} (h : Adv b.m b1.m k) (hs : b1.st.length = b.st.length + k) (hf : Full b1 b' L) : Full b b' (k + L) := by
  obtain ⟨m, m', k', h1, h2, h3, h4, h5, h6, h7, h8, h9, h10⟩ := hf
  obtain ⟨m0, st0, e0⟩ := b
  obtain ⟨m1, st1, e1⟩ := b1
  simp only [] at h1 h hs h4 ⊢
  subst h1
  cases m0 with
  | none => exact h.elim
  | some m0 =>
    obtain ⟨a1, a2, a3, a4, a5, a6⟩ := h
    exact ⟨m0, m', k + k', rfl, h2, by omega, by simp only []; omega, by omega, by omega, by omega, by omega, h9, h10⟩
/-- A state more, or a limit. -/
theorem Bst.add_run (b : Bst) (x : NS) (he : b.e = 0) (hf : Fits b.m) : (∃ m', b.add x = (⟨m', b.st ++ [x], 0⟩, b.st.length) ∧ Adv b.m m' 1) ∨ Full b (b.add x).1 1 := by
  obtain ⟨m, st, e⟩ := b
  simp only [] at he hf
  subst he
  unfold Bst.add
  rw [if_pos rfl]
  cases m with
  | none => exact .inl ⟨none, rfl, trivial⟩
  | some m =>
    simp only [Fits, Mtr.fits] at hf
    obtain ⟨f1, f2, f3, f4, f5, f6⟩ := hf
    simp only [Mtr.take, Mtr.step, Mtr.give, if_neg (show ¬ (1 : Int) < 0 by omega)]
    by_cases hc : m.cells - m.used < 1
    · rw [if_pos hc]
      simp only [Bool.false_eq_true, if_false]
      refine .inr ⟨m, m.refuse 3, 0, rfl, rfl, by omega, rfl, by simp [Mtr.refuse], by simp [Mtr.refuse], rfl, rfl, ⟨f1, f2, f3, f4, f5, f6⟩, .inl ⟨?_, rfl⟩⟩
      simp only [Mtr.refuse]; omega
    · rw [if_neg hc]
      simp only [if_true]
      by_cases hd : m.steps - m.done < 1
      · rw [if_pos hd]
        simp only [Bool.false_eq_true, if_false, Mtr.refuse]
        rw [if_neg (by omega)]
        refine .inr ⟨m, _, 0, rfl, rfl, by omega, rfl, by simp only []; omega, by simp only []; omega, rfl, rfl, ⟨?_, ?_, f3, f4, f5, f6⟩, .inr ⟨?_, ?_, rfl⟩⟩
        all_goals simp only []; omega
      · rw [if_neg hd]
        simp only [if_true]
        refine .inl ⟨_, rfl, ?_⟩
        refine ⟨rfl, rfl, rfl, rfl, rfl, ?_, ?_, f3, ?_, ?_, f6⟩
        all_goals simp only []; omega
theorem Bst.add_dead (b : Bst) (x : NS) (he : b.e ≠ 0) : b.add x = (b, 0) := by unfold Bst.add; rw [if_neg he]
theorem nodeB_dead (n : Nd) (next : Nat) (b : Bst) (he : b.e ≠ 0) : nodeB n next b = (b, 0) := by cases n; unfold nodeB; rw [if_neg he]
theorem catB_dead : ∀ (l : List Nd) (next : Nat) (b : Bst), b.e ≠ 0 → (catB l next b).1 = b
  | [], _, _, _ => rfl
  | a :: l, next, b, he => by
    simp only [catB]
    rw [nodeB_dead a _ _ (by rw [catB_dead l next b he]; exact he), catB_dead l next b he]
theorem altB_dead : ∀ (l : List Nd) (next : Nat) (b : Bst), b.e ≠ 0 → (altB l next b).1 = b
  | [], _, _, _ => rfl
  | a :: l, next, b, he => by
    simp only [altB]
    rw [nodeB_dead a _ _ he]
    exact altB_dead l next b he
theorem headB_dead : ∀ (l : List Nd) (next : Nat) (b : Bst), b.e ≠ 0 → (headB l next b).1 = b
  | [], _, _, _ => rfl
  | a :: l, next, b, he => by simp only [headB]; rw [nodeB_dead a _ _ he]
/-- A result that is the plain states'. -/
def GoesB (b : Bst) (r : Bst × Nat) (q : List NS × Nat) (k : Nat) : Prop := (∃ m', r = (⟨m', q.1, 0⟩, q.2) ∧ Adv b.m m' k) ∨ Full b r.1 k
mutual
theorem nodeB_run : ∀ (n : Nd) (next : Nat) (b : Bst), b.e = 0 → Fits b.m → GoesB b (nodeB n next b) (nfaN n next b.st) (nfaLen n)
  | .mk k s mn mx l, next, b, he, hf => by
    unfold nodeB nfaN nfaLen
    rw [if_pos he]
    by_cases h2 : k = 2
    · rw [if_pos h2, if_pos h2, if_pos h2]
      exact b.add_run _ he hf
    rw [if_neg h2, if_neg h2, if_neg h2]
    by_cases h3 : k = 3
    · rw [if_pos h3, if_pos h3, if_pos h3]
      exact catB_run l next b he hf
    rw [if_neg h3, if_neg h3, if_neg h3]
    by_cases h4 : k = 4
    · rw [if_pos h4, if_pos h4, if_pos h4]
      rcases altB_run l next b he hf with ⟨m', hr, ha⟩ | hF
      · rw [hr]
        have hl := nfaAlt_len l next b.st
        rcases Bst.add_run ⟨m', (nfaAlt l next b.st).1, 0⟩ (over (nfaAlt l next b.st).2) rfl ha.fits with ⟨m2, h2, a2⟩ | hF2
        · exact .inl ⟨m2, h2, ha.trans a2⟩
        · exact .inr (Adv.full (b1 := ⟨m', (nfaAlt l next b.st).1, 0⟩) ha hl hF2)
      · refine .inr ?_
        rw [Bst.add_dead _ _ hF.dead]
        exact hF.lt (by omega)
    rw [if_neg h4, if_neg h4, if_neg h4]
    by_cases h5 : k = 5
    · rw [if_pos h5, if_pos h5, if_pos h5]
      rcases Bst.add_run b (over []) he hf with ⟨m', hr, ha⟩ | hF
      · rw [hr]
        rcases headB_run l b.st.length ⟨m', b.st ++ [over []], 0⟩ rfl ha.fits with ⟨m2, h2, a2⟩ | hF2
        · refine .inl ⟨m2, ?_, ?_⟩
          · simp only [h2, if_true]
          · have := ha.trans a2
            rwa [Nat.add_comm] at this
        · refine .inr ?_
          simp only [if_neg hF2.dead]
          exact (Adv.full (b1 := ⟨m', b.st ++ [over []], 0⟩) ha (by simp) hF2).lt (by omega)
      · have hd := headB_dead l (b.add (over [])).2 (b.add (over [])).1 hF.dead
        refine .inr ?_
        rw [hd, if_neg hF.dead]
        exact hF.lt (by omega)
    rw [if_neg h5, if_neg h5, if_neg h5]
    refine .inl ⟨b.m, ?_, Adv.zero hf⟩
    obtain ⟨m, st, e⟩ := b
    simp only [] at he
    subst he; rfl
theorem catB_run : ∀ (l : List Nd) (next : Nat) (b : Bst), b.e = 0 → Fits b.m → GoesB b (catB l next b) (nfaCat l next b.st) (nfaLens l)
  | [], next, b, he, hf => by
    refine .inl ⟨b.m, ?_, Adv.zero hf⟩
    obtain ⟨m, st, e⟩ := b
    simp only [] at he
    subst he; rfl
  | a :: l, next, b, he, hf => by
    unfold catB nfaCat nfaLens
    rcases catB_run l next b he hf with ⟨m', hr, ha⟩ | hF
    · have hl := nfaCat_len l next b.st
      rw [hr]
      rcases nodeB_run a (nfaCat l next b.st).2 ⟨m', (nfaCat l next b.st).1, 0⟩ rfl ha.fits with ⟨m2, h2, a2⟩ | hF2
      · refine .inl ⟨m2, h2, ?_⟩
        have := ha.trans a2
        rwa [Nat.add_comm] at this
      · exact .inr ((Adv.full (b1 := ⟨m', (nfaCat l next b.st).1, 0⟩) ha hl hF2).lt (by omega))
    · refine .inr ?_
      rw [nodeB_dead _ _ _ hF.dead]
      exact hF.lt (by omega)
theorem altB_run : ∀ (l : List Nd) (next : Nat) (b : Bst), b.e = 0 → Fits b.m → (∃ m', altB l next b = (⟨m', (nfaAlt l next b.st).1, 0⟩, (nfaAlt l next b.st).2) ∧ Adv b.m m' (nfaLens l)) ∨ Full b (altB l next b).1 (nfaLens l)
  | [], next, b, he, hf => by
    refine .inl ⟨b.m, ?_, Adv.zero hf⟩
    obtain ⟨m, st, e⟩ := b
    simp only [] at he
    subst he; rfl
  | a :: l, next, b, he, hf => by
    unfold altB nfaAlt nfaLens
    rcases nodeB_run a next b he hf with ⟨m', hr, ha⟩ | hF
    · have hl := nfaN_len a next b.st
      rw [hr]
      rcases altB_run l next ⟨m', (nfaN a next b.st).1, 0⟩ rfl ha.fits with ⟨m2, h2, a2⟩ | hF2
      · exact .inl ⟨m2, by simp only [h2], ha.trans a2⟩
      · exact .inr (Adv.full (b1 := ⟨m', (nfaN a next b.st).1, 0⟩) ha hl hF2)
    · refine .inr ?_
      rw [altB_dead l next _ hF.dead]
      exact hF.lt (by omega)
theorem headB_run : ∀ (l : List Nd) (next : Nat) (b : Bst), b.e = 0 → Fits b.m → GoesB b (headB l next b) (nfaHead l next b.st) (nfaLen1 l)
  | [], next, b, he, hf => by
    refine .inl ⟨b.m, ?_, Adv.zero hf⟩
    obtain ⟨m, st, e⟩ := b
    simp only [] at he
    subst he; rfl
  | a :: l, next, b, he, hf => nodeB_run a next b he hf
end
def nfaRulesLen : List Nd → Nat
  | [] => 0
  | a :: l => nfaLen a + 1 + nfaRulesLen l
theorem nfaRules_len : ∀ (l : List Nd) (i : Nat) (st : List NS), (nfaRules l i st).1.length = st.length + nfaRulesLen l
  | [], _, _ => rfl
  | a :: l, i, st => by
    simp only [nfaRules, nfaRulesLen]
    rw [nfaRules_len l, nfaN_len]
    simp only [List.length_append, List.length_cons, List.length_nil]
    omega
theorem nfaAll_len (l : List Nd) : (nfaAll l).length = nfaRulesLen l + 1 := by
  unfold nfaAll
  rw [List.length_set, nfaRules_len]
  simp only [List.length_cons, List.length_nil]
  omega
theorem rulesB_dead : ∀ (l : List Nd) (i : Nat) (b : Bst) (eps : List Nat), b.e ≠ 0 → rulesB l i b eps = (b, eps)
  | [], _, _, _, _ => rfl
  | a :: l, i, b, eps, he => by
    unfold rulesB
    rw [Bst.add_dead _ _ he, nodeB_dead _ _ _ he, if_neg he]
    exact rulesB_dead l (i + 1) b eps he
theorem rulesB_run : ∀ (l : List Nd) (i : Nat) (b : Bst) (eps : List Nat), b.e = 0 → Fits b.m →
    (∃ m', rulesB l i b eps = (⟨m', (nfaRules l i b.st).1, 0⟩, eps ++ (nfaRules l i b.st).2) ∧ Adv b.m m' (nfaRulesLen l)) ∨ Full b (rulesB l i b eps).1 (nfaRulesLen l)
  | [], i, b, eps, he, hf => by
    refine .inl ⟨b.m, ?_, Adv.zero hf⟩
    obtain ⟨m, st, e⟩ := b
    simp only [] at he
    subst he; simp [rulesB, nfaRules]
  | a :: l, i, b, eps, he, hf => by
    unfold rulesB nfaRules nfaRulesLen
    rcases Bst.add_run b ⟨0, -1, (i : Int), []⟩ he hf with ⟨m', hr, ha⟩ | hF
    · rw [hr]
      have hl := nfaN_len a b.st.length (b.st ++ [⟨0, -1, (i : Int), []⟩])
      simp only [List.length_append, List.length_cons, List.length_nil] at hl
      rcases nodeB_run a b.st.length ⟨m', b.st ++ [⟨0, -1, (i : Int), []⟩], 0⟩ rfl ha.fits with ⟨m2, h2, a2⟩ | hF2
      · simp only [h2, if_true]
        have a3 := ha.trans a2
        rcases rulesB_run l (i + 1) ⟨m2, (nfaN a b.st.length (b.st ++ [⟨0, -1, (i : Int), []⟩])).1, 0⟩ (eps ++ [(nfaN a b.st.length (b.st ++ [⟨0, -1, (i : Int), []⟩])).2]) rfl a2.fits with ⟨m4, h4, a4⟩ | hF4
        · refine .inl ⟨m4, by rw [h4]; simp, ?_⟩
          have := a3.trans a4
          rwa [show 1 + nfaLen a + nfaRulesLen l = nfaLen a + 1 + nfaRulesLen l by omega] at this
        · refine .inr ((Adv.full (b1 := ⟨m2, (nfaN a b.st.length (b.st ++ [⟨0, -1, (i : Int), []⟩])).1, 0⟩) a3 ?_ hF4).lt (by omega))
          simp only [hl]; omega
      · refine .inr ?_
        simp only [if_neg hF2.dead]
        rw [rulesB_dead l _ _ _ hF2.dead]
        exact (Adv.full (b1 := ⟨m', b.st ++ [⟨0, -1, (i : Int), []⟩], 0⟩) ha (by simp) hF2).lt (by omega)
    · refine .inr ?_
      rw [nodeB_dead _ _ _ hF.dead]
      simp only [if_neg hF.dead]
      rw [rulesB_dead l _ _ _ hF.dead]
      exact hF.lt (by omega)
end Go.Proofs.Ytldmdlkjpdfonaa
