/- Plain words of expressions: how many parts they have, counted up to a bound. -/
import Derived.Test.YtcphepjfnnbonaaNd
namespace Go.Proofs.Ytcphepjfnnbonaa
set_option linter.unusedVariables false
set_option linter.unusedSimpArgs false
mutual
def nsize : Nd → Int → Int
  | .mk _ _ _ _ l, m => nsizes l 1 m
def nsizes : List Nd → Int → Int → Int
  | [], t, _ => t
  | a :: l, t, m => if t < m then nsizes l (t + nsize a (m - t)) m else t
end
theorem nsize_eq (n : Nd) (m : Int) : nsize n m = nsizes n.subs 1 m := by cases n; rfl
mutual
theorem nsize_bd : ∀ (n : Nd) (m : Int), 1 ≤ nsize n m ∧ nsize n m ≤ max 1 m
  | .mk _ _ _ _ l, m => by simp only [nsize]; exact nsizes_bd l 1 m (by omega) (by omega)
theorem nsizes_bd : ∀ (l : List Nd) (t m : Int), 1 ≤ t → t ≤ max 1 m → t ≤ nsizes l t m ∧ nsizes l t m ≤ max 1 m
  | [], t, m, h, h' => by simp only [nsizes]; omega
  | a :: l, t, m, h, h' => by
    simp only [nsizes]
    split
    · rename_i hlt
      have h1 := nsize_bd a (m - t)
      have h2 := nsizes_bd l (t + nsize a (m - t)) m (by omega) (by omega)
      omega
    · omega
end
mutual
/-- Counted to its end: no deeper than it is large. -/
theorem nsize_depth : ∀ (n : Nd) (m : Int), nsize n m < m → (n.depth : Int) ≤ nsize n m
  | .mk _ _ _ _ l, m, h => by
    simp only [nsize] at h ⊢
    have := nsizes_depth l 1 m (by omega) h
    simp only [Nd.depth]
    omega
theorem nsizes_depth : ∀ (l : List Nd) (t m : Int), 1 ≤ t → nsizes l t m < m → (ndepths l : Int) + t ≤ nsizes l t m
  | [], t, m, _, h => by simp only [nsizes, ndepths]; omega
  | a :: l, t, m, ht, h => by
    simp only [nsizes] at h ⊢
    split at h
    · rename_i hlt
      rw [if_pos hlt]
      have hb := nsize_bd a (m - t)
      have h2 := nsizes_depth l (t + nsize a (m - t)) m (by omega) h
      have hm := (nsizes_bd l (t + nsize a (m - t)) m (by omega) (by omega)).1
      have h1 := nsize_depth a (m - t) (by omega)
      simp only [ndepths]
      omega
    · omega
end
theorem nsizes_drop {l : List Nd} {j : Nat} {a : Nd} (h : l[j]? = some a) (t m : Int) : nsizes (l.drop j) t m = if t < m then nsizes (l.drop (j + 1)) (t + nsize a (m - t)) m else t := by
  obtain ⟨h1, rfl⟩ := List.getElem?_eq_some_iff.1 h
  rw [List.drop_eq_getElem_cons h1]
  rfl
end Go.Proofs.Ytcphepjfnnbonaa
