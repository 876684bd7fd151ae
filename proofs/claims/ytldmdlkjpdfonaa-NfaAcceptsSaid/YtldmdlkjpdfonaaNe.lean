/- Plain: how the states of an automaton of rules are. No program in sight. -/
import Derived.Test.YtldmdlkjpdfonaaNm8
import Derived.Test.YtldmdlkjpdfonaaPl
namespace Go.Proofs.Ytldmdlkjpdfonaa
set_option linter.unusedVariables false
set_option linter.unusedSimpArgs false

/-- A state that accepts nothing, and leads to states below M. -/
def Gd (M c : Nat) (x : NS) : Prop := x.acc = -1 ∧ (x.to = -1 ∨ (0 ≤ x.to ∧ x.to < M ∧ x.eps = [])) ∧ (∀ e ∈ x.eps, e < M) ∧ x.eps.length ≤ c
theorem Gd.mono {M c c' : Nat} {x : NS} (h : Gd M c x) (hc : c ≤ c') : Gd M c' x := ⟨h.1, h.2.1, h.2.2.1, Nat.le_trans h.2.2.2 hc⟩
theorem nfaAlt_begin : ∀ (l : List Nd) (next : Nat) (st : List NS), ∀ e ∈ (nfaAlt l next st).2, e < (nfaAlt l next st).1.length ∨ e = next
  | [], next, st, e, h => by cases h
  | a :: l, next, st, e, h => by
    simp only [nfaAlt] at h ⊢
    rcases List.mem_cons.1 h with rfl | h
    · rcases (nfaN_pre a next st).2 with h1 | h1
      · left
        have := nfaAlt_len l next (nfaN a next st).1
        omega
      · exact .inr h1
    · exact nfaAlt_begin l next _ e h
theorem nfaAlt_lenL : ∀ (l : List Nd) (next : Nat) (st : List NS), (nfaAlt l next st).2.length = l.length
  | [], _, _ => rfl
  | a :: l, next, st => by simp only [nfaAlt, List.length_cons, nfaAlt_lenL l]
mutual
theorem nfaN_good (M : Nat) : ∀ (n : Nd) (next : Nat) (st : List NS), next < M → (nfaN n next st).1.length ≤ M → ∃ more, (nfaN n next st).1 = st ++ more ∧ ∀ x ∈ more, Gd M (n.count + 1) x
  | .mk k s mn mx l, next, st, hn, hM => by
    have hct : (Nd.mk k s mn mx l).count = ncounts l + 1 := rfl
    unfold nfaN at hM ⊢
    by_cases h2 : k = 2
    · rw [if_pos h2] at hM ⊢
      refine ⟨_, rfl, fun x hx => ?_⟩
      rw [List.mem_singleton] at hx
      subst hx
      exact ⟨rfl, .inr ⟨by show (0 : Int) ≤ (next : Int); omega, by show (next : Int) < (M : Int); omega, rfl⟩, fun e he => (by cases he), Nat.zero_le _⟩
    by_cases h3 : k = 3
    · rw [if_neg h2, if_pos h3] at hM ⊢
      obtain ⟨more, he, hg⟩ := nfaCat_good M l next st hn hM
      exact ⟨more, he, fun x hx => (hg x hx).mono (by omega)⟩
    by_cases h4 : k = 4
    · rw [if_neg h2, if_neg h3, if_pos h4] at hM ⊢
      simp only [List.length_append, List.length_cons, List.length_nil] at hM
      obtain ⟨more, he, hg⟩ := nfaAlt_good M l next st hn (by omega)
      refine ⟨more ++ [over (nfaAlt l next st).2], by simp only [he, List.append_assoc], fun x hx => ?_⟩
      rcases List.mem_append.1 hx with hx | hx
      · exact (hg x hx).mono (by omega)
      · rw [List.mem_singleton] at hx
        subst hx
        refine ⟨rfl, .inl rfl, fun e he => ?_, ?_⟩
        · rcases nfaAlt_begin l next st e he with h | h <;> omega
        · show (nfaAlt l next st).2.length ≤ _
          rw [nfaAlt_lenL]
          have := ncounts_len l
          omega
    by_cases h5 : k = 5
    · rw [if_neg h2, if_neg h3, if_neg h4, if_pos h5] at hM ⊢
      simp only [List.length_set] at hM
      have hl := nfaHead_len l st.length (st ++ [over []])
      simp only [List.length_append, List.length_cons, List.length_nil] at hl
      obtain ⟨more, he, hg⟩ := nfaHead_good M l st.length (st ++ [over []]) (by omega) hM
      refine ⟨over [(nfaHead l st.length (st ++ [over []])).2, next] :: more, ?_, fun x hx => ?_⟩
      · simp only [he, List.append_assoc, List.singleton_append]
        rw [List.set_append_right _ _ (Nat.le_refl _)]
        simp
      · rcases List.mem_cons.1 hx with rfl | hx
        · refine ⟨rfl, .inl rfl, fun e he' => ?_, by show 2 ≤ _; omega⟩
          have he2 : e ∈ [(nfaHead l st.length (st ++ [over []])).2, next] := he'
          rcases List.mem_cons.1 he2 with h1 | h1
          · rcases (nfaHead_pre l st.length (st ++ [over []])).2 with h | h <;> omega
          · rw [List.mem_singleton] at h1; omega
        · exact (hg x hx).mono (by omega)
    · rw [if_neg h2, if_neg h3, if_neg h4, if_neg h5]
      exact ⟨[], by simp, fun x hx => by cases hx⟩
theorem nfaCat_good (M : Nat) : ∀ (l : List Nd) (next : Nat) (st : List NS), next < M → (nfaCat l next st).1.length ≤ M → ∃ more, (nfaCat l next st).1 = st ++ more ∧ ∀ x ∈ more, Gd M (ncounts l + 1) x
  | [], next, st, _, _ => ⟨[], by simp [nfaCat], fun x hx => by cases hx⟩
  | a :: l, next, st, hn, hM => by
    simp only [nfaCat] at hM ⊢
    have hl := nfaN_len a (nfaCat l next st).2 (nfaCat l next st).1
    obtain ⟨m1, e1, g1⟩ := nfaCat_good M l next st hn (by omega)
    obtain ⟨m2, e2, g2⟩ := nfaN_good M a (nfaCat l next st).2 (nfaCat l next st).1 (by rcases (nfaCat_pre l next st).2 with h | h <;> omega) hM
    refine ⟨m1 ++ m2, by rw [e2, e1, List.append_assoc], fun x hx => ?_⟩
    simp only [ncounts]
    rcases List.mem_append.1 hx with hx | hx
    · exact (g1 x hx).mono (by omega)
    · exact (g2 x hx).mono (by omega)
theorem nfaAlt_good (M : Nat) : ∀ (l : List Nd) (next : Nat) (st : List NS), next < M → (nfaAlt l next st).1.length ≤ M → ∃ more, (nfaAlt l next st).1 = st ++ more ∧ ∀ x ∈ more, Gd M (ncounts l + 1) x
  | [], next, st, _, _ => ⟨[], by simp [nfaAlt], fun x hx => by cases hx⟩
  | a :: l, next, st, hn, hM => by
    simp only [nfaAlt] at hM ⊢
    have hl := nfaAlt_len l next (nfaN a next st).1
    obtain ⟨m1, e1, g1⟩ := nfaN_good M a next st hn (by omega)
    obtain ⟨m2, e2, g2⟩ := nfaAlt_good M l next (nfaN a next st).1 hn hM
    refine ⟨m1 ++ m2, by rw [e2, e1, List.append_assoc], fun x hx => ?_⟩
    simp only [ncounts]
    rcases List.mem_append.1 hx with hx | hx
    · exact (g1 x hx).mono (by omega)
    · exact (g2 x hx).mono (by omega)
theorem nfaHead_good (M : Nat) : ∀ (l : List Nd) (next : Nat) (st : List NS), next < M → (nfaHead l next st).1.length ≤ M → ∃ more, (nfaHead l next st).1 = st ++ more ∧ ∀ x ∈ more, Gd M (ncounts l + 1) x
  | [], next, st, _, _ => ⟨[], by simp [nfaHead], fun x hx => by cases hx⟩
  | a :: l, next, st, hn, hM => by
    simp only [nfaHead] at hM ⊢
    obtain ⟨m1, e1, g1⟩ := nfaN_good M a next st hn hM
    exact ⟨m1, e1, fun x hx => (g1 x hx).mono (by simp only [ncounts]; omega)⟩
end
/-- A rule's last state. -/
def endS (i : Nat) : NS := ⟨0, -1, (i : Int), []⟩
/-- How the states of rules are: one accepts each rule, in order; the others are good. -/
inductive Rules (M c : Nat) : Nat → Nat → List NS → Prop
  | nil (i : Nat) : Rules M c i i []
  | rule {i j : Nat} {more rest : List NS} (h : ∀ x ∈ more, Gd M c x) (r : Rules M c (i + 1) j rest) : Rules M c i j (endS i :: more ++ rest)
theorem Rules.mono {M c c' : Nat} (hc : c ≤ c') {i j : Nat} {L : List NS} (h : Rules M c i j L) : Rules M c' i j L := by
  induction h with
  | nil i => exact .nil i
  | rule h _ ih => exact .rule (fun x hx => (h x hx).mono hc) ih
theorem nfaRules_good (M : Nat) : ∀ (l : List Nd) (i : Nat) (st : List NS), (nfaRules l i st).1.length ≤ M → (∃ more, (nfaRules l i st).1 = st ++ more ∧ Rules M (ncounts l + 1) i (i + l.length) more) ∧ (nfaRules l i st).2.length = l.length ∧ ∀ e ∈ (nfaRules l i st).2, e < M
  | [], i, st, _ => ⟨⟨[], by simp [nfaRules], .nil i⟩, rfl, fun e he => by cases he⟩
  | n :: l, i, st, hM => by
    simp only [nfaRules] at hM ⊢
    have hl := nfaRules_len l (i + 1) (nfaN n st.length (st ++ [⟨0, -1, (i : Int), []⟩])).1
    have hl2 := nfaN_len n st.length (st ++ [⟨0, -1, (i : Int), []⟩])
    simp only [List.length_append, List.length_cons, List.length_nil] at hl2
    obtain ⟨m1, e1, g1⟩ := nfaN_good M n st.length (st ++ [⟨0, -1, (i : Int), []⟩]) (by omega) (by omega)
    obtain ⟨⟨m2, e2, g2⟩, h3, h4⟩ := nfaRules_good M l (i + 1) _ hM
    refine ⟨⟨endS i :: m1 ++ m2, by rw [e2, e1]; simp [endS], ?_⟩, by simp [h3], fun e he => ?_⟩
    · have h5 : i + (n :: l).length = i + 1 + l.length := by simp only [List.length_cons]; omega
      rw [h5]
      simp only [ncounts]
      exact .rule (fun x hx => (g1 x hx).mono (by omega)) (g2.mono (by omega))
    · rcases List.mem_cons.1 he with rfl | he
      · rcases (nfaN_pre n st.length (st ++ [⟨0, -1, (i : Int), []⟩])).2 with h | h <;> omega
      · exact h4 e he
/-- The whole automaton. -/
theorem nfaAll_good (l : List Nd) : ∃ eps more, nfaAll l = over eps :: more ∧ eps.length = l.length ∧ (∀ e ∈ eps, e < (nfaAll l).length) ∧ Rules (nfaAll l).length (ncounts l + 1) 0 l.length more := by
  have hlen : (nfaRules l 0 [over []]).1.length = (nfaAll l).length := by unfold nfaAll; rw [List.length_set]
  obtain ⟨⟨more, h1, h2⟩, h3, h4⟩ := nfaRules_good (nfaAll l).length l 0 [over []] (Nat.le_of_eq hlen)
  refine ⟨(nfaRules l 0 [over []]).2, more, ?_, h3, h4, ?_⟩
  · unfold nfaAll
    rw [h1]; rfl
  · rw [Nat.zero_add] at h2; exact h2
theorem Rules.le {M c : Nat} {i j : Nat} {L : List NS} (h : Rules M c i j L) : i ≤ j := by
  induction h with
  | nil => exact Nat.le_refl _
  | rule _ _ ih => omega
theorem Rules.get {M c : Nat} {i j : Nat} {L : List NS} (h : Rules M c i j L) : ∀ x ∈ L, (∃ k, i ≤ k ∧ k < j ∧ x = endS k) ∨ Gd M c x := by
  induction h with
  | nil i => intro x hx; cases hx
  | @rule i j more rest h r ih =>
    have hij : i + 1 ≤ j := r.le
    intro x hx
    rcases List.mem_append.1 hx with hx | hx
    · rcases List.mem_cons.1 hx with rfl | hx
      · exact .inl ⟨i, Nat.le_refl _, by omega, rfl⟩
      · exact .inr (h x hx)
    · rcases ih x hx with ⟨k, h1, h2, h3⟩ | h1
      · exact .inl ⟨k, by omega, h2, h3⟩
      · exact .inr h1
/-- No state goes over nothing to very many. -/
theorem nfaAll_eps (l : List Nd) (hc : ncounts l < 2147483648) (hl : l.length ≤ 8) : ∀ x ∈ nfaAll l, x.eps.length < 4294967296 := by
  obtain ⟨eps, more, h1, h2, h3, h4⟩ := nfaAll_good l
  intro x hx
  rw [h1] at hx
  rcases List.mem_cons.1 hx with rfl | hx
  · show eps.length < _; omega
  · rcases h4.get x hx with ⟨k, _, _, rfl⟩ | hg
    · show 0 < _; omega
    · have := hg.2.2.2; omega
end Go.Proofs.Ytldmdlkjpdfonaa
