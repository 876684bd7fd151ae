/- The plain law of RegexRound and RegexDeep: brackets round a right text. No program in sight. -/
import Derived.Test.YtcphepjfnnbonaaRxSh
namespace Go.Proofs.Ytcphepjfnnbonaa
set_option linter.unusedVariables false
set_option linter.unusedSimpArgs false

theorem nx_left {a b : ByteArray} {i : Nat} (h : i < a.size) : nx (a ++ b) i = nx a i := by
  have h1 : i < (a ++ b).size := by rw [ByteArray.size_append]; omega
  rw [nx_lt h1, nx_lt h, ByteArray.getElem_append_left h]
theorem nx_right {a b : ByteArray} (i : Nat) : nx (a ++ b) (i + a.size) = nx b i := by
  rcases Nat.lt_or_ge i b.size with h | h
  · have h1 : i + a.size < (a ++ b).size := by rw [ByteArray.size_append]; omega
    rw [nx_lt h1, nx_lt h, ByteArray.getElem_append_right (by omega)]
    congr 3
    omega
  · rw [nx_out h, nx_out (by rw [ByteArray.size_append]; omega)]
section
variable {t : ByteArray} {e i j : Nat} {n : Nd}
/-- Brackets round what is right. -/
theorem item_paren (h40 : nx t i = 40) (hs : Rx.alt t e (i + 1) = .ok n j) (h41 : nx t j = 41) (hn : nx t (j + 1) = -1 ∨ nx t (j + 1) = 41 ∨ nx t (j + 1) = 124) :
    Rx.item t (some (Rx.alt t e)) i = .ok n (j + 1) := by
  have ha : Rx.atom t (some (Rx.alt t e)) i = .ok n (j + 1) := by
    unfold Rx.atom
    rw [if_pos h40]
    simp only [hs, R.bind, Rx.must]
    rw [if_pos h41]
  unfold Rx.item
  rw [ha]
  simp only [R.bind]
  rw [if_neg (by omega), if_neg (by omega), if_neg (by omega), if_neg (by omega)]
theorem cat_paren (h40 : nx t i = 40) (hs : Rx.alt t e (i + 1) = .ok n j) (h41 : nx t j = 41) (hn : nx t (j + 1) = -1 ∨ nx t (j + 1) = 41 ∨ nx t (j + 1) = 124) :
    Rx.cat t (some (Rx.alt t e)) i = .ok n (j + 1) := by
  have hlt := nx_nonneg (s := t) (i := i) (by omega)
  obtain ⟨z, hz⟩ : ∃ z, t.size = z + 1 := ⟨t.size - 1, by omega⟩
  unfold Rx.cat
  rw [hz]
  have e1 : Rx.ends t i = false := by unfold Rx.ends; rw [h40]; rfl
  have e2 : Rx.ends t (j + 1) = true := by unfold Rx.ends; rcases hn with h | h | h <;> rw [h] <;> rfl
  have h2 : Rx.catLoop t (some (Rx.alt t e)) (z + 1 + 1) i [] = .ok [n] (j + 1) := by
    rw [Rx.catLoop, e1, if_neg (by decide), item_paren h40 hs h41 hn]
    simp only [R.bind]
    rw [Rx.catLoop, e2, if_pos rfl]
    rfl
  rw [h2]
  rfl
theorem altF_one {sub : Option (Nat → R Nd)} (hc : Rx.cat t sub i = .ok n j) (hn : nx t j ≠ 124) : Rx.altF t sub i = .ok n j := by
  unfold Rx.altF
  rw [hc]
  simp only [R.bind]
  rw [Rx.altLoop, if_neg hn]
  rfl
theorem alt_paren (h40 : nx t i = 40) (hs : Rx.alt t e (i + 1) = .ok n j) (h41 : nx t j = 41) (hn : nx t (j + 1) = -1 ∨ nx t (j + 1) = 41) :
    Rx.alt t (e + 1) i = .ok n (j + 1) := by
  unfold Rx.alt
  exact altF_one (cat_paren h40 hs h41 (by rcases hn with h | h; exact .inl h; exact .inr (.inl h))) (by rcases hn with h | h <;> rw [h] <;> decide)
/-- What is wrong behind a bracket is wrong. -/
theorem cat_wrong {k : Nat} (h40 : nx t i = 40) (hs : Rx.alt t e (i + 1) = .bad k) : Rx.cat t (some (Rx.alt t e)) i = .bad k := by
  have ha : Rx.atom t (some (Rx.alt t e)) i = .bad k := by
    unfold Rx.atom
    rw [if_pos h40]
    simp only [hs, R.bind]
  have hi : Rx.item t (some (Rx.alt t e)) i = .bad k := by unfold Rx.item; rw [ha]; rfl
  have e1 : Rx.ends t i = false := by unfold Rx.ends; rw [h40]; rfl
  unfold Rx.cat
  rw [Rx.catLoop, e1, if_neg (by decide), hi]
  rfl
theorem altF_wrong {sub : Option (Nat → R Nd)} {k : Nat} (hc : Rx.cat t sub i = .bad k) : Rx.altF t sub i = .bad k := by
  unfold Rx.altF
  rw [hc]
  rfl
theorem alt_wrong {k : Nat} (h40 : nx t i = 40) (hs : Rx.alt t e (i + 1) = .bad k) : Rx.alt t (e + 1) i = .bad k := by
  unfold Rx.alt
  exact altF_wrong (cat_wrong h40 hs)
theorem alt_full (h40 : nx t i = 40) : Rx.alt t 0 i = .bad i := by
  unfold Rx.alt
  have ha : Rx.atom t none i = .bad i := by unfold Rx.atom; rw [if_pos h40]
  have hi : Rx.item t none i = .bad i := by unfold Rx.item; rw [ha]; rfl
  have e1 : Rx.ends t i = false := by unfold Rx.ends; rw [h40]; rfl
  refine altF_wrong ?_
  unfold Rx.cat
  rw [Rx.catLoop, e1, if_neg (by decide), hi]
  rfl
end
theorem parse_ok {s : ByteArray} {n : Nd} {j : Nat} (h : Rx.parse s = .ok n j) : Rx.alt s 12 0 = .ok n s.size := by
  unfold Rx.parse at h
  obtain ⟨a, i, h1, h2⟩ := bind_ok h
  split at h2
  · rename_i hi; injection h2 with h3 h4; subst h3; subst hi; exact h1
  · cases h2
theorem parse_of {s : ByteArray} {n : Nd} (h : Rx.alt s 12 0 = .ok n s.size) : Rx.parse s = .ok n 0 := by
  unfold Rx.parse
  rw [h]
  show (if s.size = s.size then _ else _) = _
  rw [if_pos rfl]
theorem parse_wrong {s : ByteArray} {k : Nat} (h : Rx.alt s 12 0 = .bad k) : Rx.parse s = .bad k := by
  unfold Rx.parse
  rw [h]
  rfl
theorem parse_ne (s : ByteArray) : Rx.parse s ≠ .out := by
  unfold Rx.parse
  cases h : Rx.alt s 12 0 with
  | out => exact absurd h (alt_goes s 12 0 (Nat.zero_le _)).1
  | bad k => exact fun h => by cases h
  | ok a j =>
    show (if j = s.size then R.ok a 0 else R.bad j) ≠ _
    split <;> (intro h; cases h)
def lp : ByteArray := ⟨#[40]⟩
def rp : ByteArray := ⟨#[41]⟩
def bp : ByteArray := ⟨#[41, 124, 40]⟩
/-- '(s)': s's expression, or it is wrong. -/
theorem round_one {s : ByteArray} {n : Nd} {j : Nat} (h : Rx.parse s = .ok n j) : Rx.parse (lp ++ s ++ rp) = .ok n 0 ∨ ∃ k, Rx.parse (lp ++ s ++ rp) = .bad k := by
  have ha := parse_ok h
  have hsz : (lp ++ s ++ rp).size = s.size + 2 := by rw [ByteArray.size_append, ByteArray.size_append]; show 1 + s.size + 1 = _; omega
  have hl : (lp ++ s).size = s.size + 1 := by rw [ByteArray.size_append]; show 1 + s.size = _; omega
  have h0 : nx (lp ++ s ++ rp) 0 = 40 := by rw [nx_left (by omega), nx_left (by decide)]; rfl
  have h1 : nx (lp ++ s ++ rp) (s.size + 1) = 41 := by
    have := nx_right (a := lp ++ s) (b := rp) 0
    rw [Nat.zero_add, hl] at this
    rw [this]; rfl
  have C : Sh s (lp ++ s ++ rp) 1 := ⟨fun i hi => by rw [nx_left (by omega)]; exact nx_right (a := lp) (b := s) i, .inl h1, by omega⟩
  rcases alt_sh C 12 11 0 (Nat.zero_le _) n s.size ha with h2 | ⟨_, k, h2⟩
  · left
    refine parse_of ?_
    rw [hsz]
    exact alt_paren h0 h2 h1 (.inl (nx_out (by omega)))
  · right
    exact ⟨k, parse_wrong (alt_wrong h0 h2)⟩
/-- '(s)|(u)': the choice between both, or it is wrong. -/
theorem round_two {s u : ByteArray} {n m : Nd} {j j' : Nat} (h : Rx.parse s = .ok n j) (h' : Rx.parse u = .ok m j') :
    Rx.parse (lp ++ s ++ bp ++ u ++ rp) = .ok (.mk 4 0 0 0 [n, m]) 0 ∨ ∃ k, Rx.parse (lp ++ s ++ bp ++ u ++ rp) = .bad k := by
  have ha := parse_ok h
  have hb := parse_ok h'
  have hl : (lp ++ s).size = s.size + 1 := by rw [ByteArray.size_append]; show 1 + s.size = _; omega
  have hl2 : (lp ++ s ++ bp).size = s.size + 4 := by rw [ByteArray.size_append, hl]; rfl
  have hl3 : (lp ++ s ++ bp ++ u).size = s.size + 4 + u.size := by rw [ByteArray.size_append, hl2]
  have hsz : (lp ++ s ++ bp ++ u ++ rp).size = s.size + u.size + 5 := by rw [ByteArray.size_append, hl3]; show s.size + 4 + u.size + 1 = _; omega
  generalize ht : lp ++ s ++ bp ++ u ++ rp = t at *
  have p1 : ∀ i, i < s.size + 1 → nx t i = nx (lp ++ s) i := fun i hi => by rw [← ht, nx_left (by omega), nx_left (by omega), nx_left (by omega)]
  have p2 : ∀ i, i < 3 → nx t (i + (s.size + 1)) = nx bp i := fun i hi => by
    rw [← ht, nx_left (by omega), nx_left (by omega), ← hl]; exact nx_right i
  have p3 : ∀ i, i < u.size → nx t (i + (s.size + 4)) = nx u i := fun i hi => by
    rw [← ht, nx_left (by omega), ← hl2]; exact nx_right i
  have p4 : nx t (u.size + (s.size + 4)) = 41 := by
    have := nx_right (a := lp ++ s ++ bp ++ u) (b := rp) 0
    rw [ht, Nat.zero_add, hl3, show s.size + 4 + u.size = u.size + (s.size + 4) by omega] at this
    rw [this]; rfl
  have h0 : nx t 0 = 40 := by rw [p1 0 (by omega), nx_left (by decide)]; rfl
  have q0 : nx t (s.size + 1) = 41 := by have := p2 0 (by omega); rw [Nat.zero_add] at this; rw [this]; rfl
  have q1 : nx t (s.size + 1 + 1) = 124 := by have := p2 1 (by omega); rw [show 1 + (s.size + 1) = s.size + 1 + 1 by omega] at this; rw [this]; rfl
  have q2 : nx t (s.size + 1 + 1 + 1) = 40 := by have := p2 2 (by omega); rw [show 2 + (s.size + 1) = s.size + 1 + 1 + 1 by omega] at this; rw [this]; rfl
  have C : Sh s t 1 := ⟨fun i hi => by rw [p1 (i + 1) (by omega)]; exact nx_right (a := lp) (b := s) i, .inl q0, by omega⟩
  have D : Sh u t (s.size + 4) := ⟨p3, .inl p4, by omega⟩
  rcases alt_sh C 12 11 0 (Nat.zero_le _) n s.size ha with h2 | ⟨_, k, h2⟩
  · have c1 : Rx.cat t (some (Rx.alt t 11)) 0 = .ok n (s.size + 1 + 1) := cat_paren h0 h2 q0 (.inr (.inr q1))
    have hal : Rx.alt t 12 0 = (Rx.altLoop t (some (Rx.alt t 11)) (t.size + 1) (s.size + 1 + 1) [n]).bind fun l k => .ok (Rx.of 4 l) k := by
      rw [Rx.alt, Rx.altF, c1]; rfl
    rcases alt_sh D 12 11 0 (Nat.zero_le _) m u.size hb with h3 | ⟨_, k, h3⟩
    · left
      rw [Nat.zero_add, show s.size + 4 = s.size + 1 + 1 + 1 + 1 by omega] at h3
      have c2 : Rx.cat t (some (Rx.alt t 11)) (s.size + 1 + 1 + 1) = .ok m (u.size + (s.size + 1 + 1 + 1 + 1) + 1) := cat_paren q2 h3 p4 (.inl (nx_out (by omega)))
      refine parse_of ?_
      rw [hal]
      obtain ⟨z, hz⟩ : ∃ z, t.size = z + 1 := ⟨t.size - 1, by omega⟩
      have h4 : Rx.altLoop t (some (Rx.alt t 11)) (t.size + 1) (s.size + 1 + 1) [n] = .ok [n, m] t.size := by
        rw [Rx.altLoop, if_pos q1, c2]
        simp only [R.bind]
        have e : u.size + (s.size + 1 + 1 + 1 + 1) + 1 = t.size := by omega
        rw [e, hz, Rx.altLoop, if_neg (by rw [nx_out (by omega)]; decide)]
        rfl
      rw [h4]
      rfl
    · right
      rw [Nat.zero_add, show s.size + 4 = s.size + 1 + 1 + 1 + 1 by omega] at h3
      refine ⟨k, parse_wrong ?_⟩
      rw [hal, Rx.altLoop, if_pos q1, cat_wrong q2 h3]
      rfl
  · right
    exact ⟨k, parse_wrong (alt_wrong h0 h2)⟩
end Go.Proofs.Ytcphepjfnnbonaa
