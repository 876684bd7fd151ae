/- Plain: sets of states along a text; each rule's states are its own. No program in sight. -/
import Derived.Test.YtldmdlkjpdfonaaCl
namespace Go.Proofs.Ytldmdlkjpdfonaa
set_option linter.unusedVariables false
set_option linter.unusedSimpArgs false

/-- The states that are come to at place j, from a state q0 at place i0. -/
def InOf (L : List NS) (s : ByteArray) (q0 i0 j : Nat) (f : Nat → Bool) : Prop := ∀ q, q < L.length → (f q = true ↔ Reach L s q0 i0 q j)
theorem inOf_start {L : List NS} {s : ByteArray} {q0 i0 : Nat} {f0 f : Nat → Bool} (hq : q0 < L.length) (h0 : ∀ q, q < L.length → (f0 q = true ↔ q = q0)) (hc : CloseOf L f0 f) : InOf L s q0 i0 i0 f := by
  intro q hq'
  rw [hc q hq', reach_zero]
  constructor
  · rintro ⟨p, hp, h1, h2⟩
    rw [(h0 p hp).1 h1] at h2; exact h2
  · exact fun h => ⟨q0, hq, (h0 q0 hq).2 rfl, h⟩
theorem inOf_step {L : List NS} {s : ByteArray} {q0 i0 j : Nat} {f g h : Nat → Bool} (hr : ∀ x ∈ L, x.to < L.length) (hi : InOf L s q0 i0 j f) (hj : j < s.size) (hij : i0 ≤ j) (hm : MoveOf L s[j].toNat f g) (hc : CloseOf L g h) : InOf L s q0 i0 (j + 1) h := by
  intro q hq
  rw [hc q hq, reach_succ hij]
  have hnx : (nx s j).toNat = s[j].toNat := by rw [nx_lt hj]; rfl
  constructor
  · rintro ⟨t, ht, h1, h2⟩
    obtain ⟨p, x, hx, hp, hto, hb⟩ := (hm t ht).1 h1
    exact ⟨p, t, (hi p (List.getElem?_eq_some_iff.1 hx).1).1 hp, ⟨x, hx, hto, hj, by rw [hnx]; exact hb⟩, h2⟩
  · rintro ⟨p, t, h1, ⟨x, hx, hto, _, hb⟩, h2⟩
    have hp := (List.getElem?_eq_some_iff.1 hx).1
    have ht : t < L.length := by have := hr x (List.mem_of_getElem? hx); omega
    rw [hnx] at hb
    exact ⟨t, ht, (hm t ht).2 ⟨p, x, hx, (hi p hp).2 h1, hto, hb⟩, h2⟩
/-- From a rule's beginning nothing is accepted but the rule, and that just if it matches. -/
theorem rule_acc {L : List NS} {s : ByteArray} {n : Nd} {i b i0 j : Nat} (hr : RuleOK L s n i b) : (∀ q x, Reach L s b i0 q j → L[q]? = some x → 0 ≤ x.acc → x.acc = (i : Int) ∧ Mt s n i0 j) ∧ (Mt s n i0 j → ∃ q x, Reach L s b i0 q j ∧ L[q]? = some x ∧ x.acc = (i : Int)) := by
  obtain ⟨e, lo, hi, he, hd, ho, hacc⟩ := hr
  constructor
  · rintro q x ⟨k, r⟩ hx ha
    have hout : q < lo ∨ hi ≤ q := by
      rcases Nat.lt_or_ge q lo with h4 | h4
      · exact .inl h4
      · rcases Nat.lt_or_ge q hi with h5 | h5
        · have := hacc q x hx h4 h5; omega
        · exact .inr h5
    obtain ⟨p, k2, _, h6, h7⟩ := ho k i0 q j r hout
    have hend : e = q ∧ p = j := by
      cases h7 with
      | nil => exact ⟨rfl, rfl⟩
      | eps hx' he' _ => rw [he] at hx'; injection hx' with hx'; rw [← hx'] at he'; cases he'
      | byte hx' ht' _ _ => rw [he] at hx'; injection hx' with hx'; rw [← hx'] at ht'; simp only [] at ht'; omega
    obtain ⟨rfl, rfl⟩ := hend
    rw [he] at hx; injection hx with hx
    exact ⟨by rw [← hx], h6⟩
  · intro h
    obtain ⟨k, r⟩ := hd i0 j h
    exact ⟨e, _, ⟨k, r⟩, he, rfl⟩
/-- The k-th rule's beginning. -/
theorem begins (l : List Nd) (hok : ∀ n ∈ l, okN n = true) (s : ByteArray) : ∃ eps, (nfaAll l)[0]? = some (over eps) ∧ eps.length = l.length ∧ ∀ k b n, l[k]? = some n → eps[k]? = some b → RuleOK (nfaAll l) s n k b := by
  obtain ⟨more, hm⟩ := nfaRules_pre l 0 [over []]
  have hlen := congrArg List.length hm
  simp only [List.length_append, List.length_cons, List.length_nil] at hlen
  have h0 : (nfaAll l)[0]? = some (over (nfaRules l 0 [over []]).2) := by
    unfold nfaAll
    rw [List.getElem?_set_self (by omega)]
  have hHas : Has (nfaAll l) [over []] (nfaRules l 0 [over []]).1 := fun q h1 h2 => by
    unfold nfaAll
    simp only [List.length_cons, List.length_nil] at h1
    rw [List.getElem?_set_ne (by omega)]
  obtain ⟨hl, hr⟩ := rules_ok (L := nfaAll l) (s := s) l 0 [over []] hok hHas
  refine ⟨_, h0, hl, fun k b n hk hb => ?_⟩
  have := hr k b n hk hb
  rwa [Nat.zero_add] at this
/-- What is accepted from a rule's beginning. -/
theorem acc_rule {L : List NS} {s : ByteArray} {n : Nd} {i b j : Nat} {f : Nat → Bool} {z : Int} (hr : RuleOK L s n i b) (hi : InOf L s b 0 j f) (hz : AccOf L f z) : (0 ≤ z → z = (i : Int)) ∧ (z = (i : Int) ↔ Mt s n 0 j) := by
  obtain ⟨h1, h2⟩ := rule_acc (i0 := 0) (j := j) hr
  rcases hz with ⟨rfl, hz⟩ | ⟨hz, ⟨p, x, hx, hp, ha⟩, hmin⟩
  · refine ⟨fun h => by omega, fun h => by omega, fun h => ?_⟩
    obtain ⟨q, y, hy1, hy2, hy3⟩ := h2 h
    have := hz q y hy2 ((hi q (List.getElem?_eq_some_iff.1 hy2).1).2 hy1)
    omega
  · have h3 := h1 p x ((hi p (List.getElem?_eq_some_iff.1 hx).1).1 hp) hx (by omega)
    exact ⟨fun _ => by omega, fun _ => h3.2, fun _ => by omega⟩
/-- What is accepted of an automaton of one rule. -/
theorem acc_one {s : ByteArray} {n : Nd} {j : Nat} {f : Nat → Bool} {z : Int} (hok : okN n = true) (hi : InOf (nfaAll [n]) s 0 0 j f) (hz : AccOf (nfaAll [n]) f z) : z = 0 ↔ Mt s n 0 j := by
  have hacc := fun k => acc_iff (s := s) [n] (fun m hm => by rw [List.mem_singleton] at hm; rw [hm]; exact hok) 0 j k
  rcases hz with ⟨rfl, hz⟩ | ⟨hz, ⟨p, x, hx, hp, ha⟩, hmin⟩
  · refine ⟨fun h => by omega, fun h => ?_⟩
    obtain ⟨k, q, y, r, hy, hy2⟩ := (hacc 0).2 ⟨n, rfl, h⟩
    have := hz q y hy ((hi q (List.getElem?_eq_some_iff.1 hy).1).2 ⟨k, r⟩)
    omega
  · obtain ⟨k, r⟩ := (hi p (List.getElem?_eq_some_iff.1 hx).1).1 hp
    obtain ⟨m, hm, hmt⟩ := (hacc z.toNat).1 ⟨k, p, x, r, hx, by omega⟩
    have hz0 : z.toNat = 0 := by
      have := (List.getElem?_eq_some_iff.1 hm).1
      simp only [List.length_cons, List.length_nil] at this
      omega
    rw [hz0] at hm
    injection hm with hm
    subst hm
    exact ⟨fun _ => hmt, fun _ => by omega⟩
end Go.Proofs.Ytldmdlkjpdfonaa
