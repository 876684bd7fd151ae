/- Plain words of expressions: how deep they are, and whether two are the same. Plain words of expressions: how many parts they have, counted up to a bound. -/
import Derived.Test.YtldmdlkjpdfonaaRx
namespace Go.Proofs.Ytldmdlkjpdfonaa
set_option linter.unusedVariables false
set_option linter.unusedSimpArgs false
section
mutual
def Nd.depth : Nd → Nat
  | .mk _ _ _ _ l => ndepths l + 1
def ndepths : List Nd → Nat
  | [] => 0
  | n :: l => max n.depth (ndepths l)
end
theorem ndepths_append : ∀ l m : List Nd, ndepths (l ++ m) = max (ndepths l) (ndepths m)
  | [], m => by simp [ndepths]
  | n :: l, m => by simp only [List.cons_append, ndepths, ndepths_append l m]; omega
theorem ndepths_take {l : List Nd} {i : Nat} {n : Nd} (h : l[i]? = some n) : ndepths (l.take (i + 1)) = max (ndepths (l.take i)) n.depth := by
  rw [List.take_add_one, h, ndepths_append]
  simp [ndepths]
theorem ndepths_get : ∀ {l : List Nd} {i : Nat} {n : Nd}, l[i]? = some n → n.depth ≤ ndepths l
  | [], _, _, h => by simp at h
  | a :: l, 0, n, h => by simp at h; subst h; simp only [ndepths]; omega
  | a :: l, i + 1, n, h => by have := ndepths_get (l := l) (i := i) (by simpa using h); simp only [ndepths]; omega
theorem Nd.depth_eq (n : Nd) : n.depth = ndepths n.subs + 1 := by cases n; rfl

/-- The words of the sets alike. -/
def sameHead (a b : Nd) : Bool := a.kind == b.kind && (wd a.set 0 == wd b.set 0 && wd a.set 1 == wd b.set 1 && wd a.set 2 == wd b.set 2 && wd a.set 3 == wd b.set 3) && a.mn == b.mn && a.mx == b.mx
mutual
def Nd.same : Nd → Nd → Bool
  | .mk k s mn mx l, .mk k' s' mn' mx' l' => sameHead (.mk k s mn mx []) (.mk k' s' mn' mx' []) && nsames l l'
def nsames : List Nd → List Nd → Bool
  | [], [] => true
  | a :: l, b :: m => a.same b && nsames l m
  | _, _ => false
end
theorem Nd.same_eq (a b : Nd) : a.same b = (sameHead a b && nsames a.subs b.subs) := by cases a; cases b; rfl
theorem nsames_len : ∀ {l m : List Nd}, l.length ≠ m.length → nsames l m = false
  | [], [], h => absurd rfl h
  | [], _ :: _, _ => rfl
  | _ :: _, [], _ => rfl
  | a :: l, b :: m, h => by
    simp only [nsames]
    rw [nsames_len (l := l) (m := m) (by simpa using h)]
    simp
mutual
theorem Nd.same_self : ∀ a : Nd, a.same a = true
  | .mk k s mn mx l => by simp only [Nd.same, nsames_self l]; simp [sameHead]
theorem nsames_self : ∀ l : List Nd, nsames l l = true
  | [] => rfl
  | a :: l => by simp only [nsames, a.same_self, nsames_self l]; rfl
end
theorem nsames_drop {l m : List Nd} {i : Nat} {a b : Nd} (ha : l[i]? = some a) (hb : m[i]? = some b) : nsames (l.drop i) (m.drop i) = (a.same b && nsames (l.drop (i + 1)) (m.drop (i + 1))) := by
  obtain ⟨h1, rfl⟩ := List.getElem?_eq_some_iff.1 ha
  obtain ⟨h2, rfl⟩ := List.getElem?_eq_some_iff.1 hb
  rw [List.drop_eq_getElem_cons h1, List.drop_eq_getElem_cons h2]
  rfl
end
section
mutual
def nsize : Nd → Int → Int
  | .mk _ _ _ _ l, m => nsizes l 1 m
def nsizes : List Nd → Int → Int → Int
  | [], t, _ => t
  | a :: l, t, m => if t < m then nsizes l (t + nsize a (m - t)) m else t
end
theorem nsize_eq (n : Nd) (m : Int) : nsize n m = nsizes n.subs 1 m := by cases n; rfl
mutual
theorem nsize_bd : ∀ (n : Nd) (m : Int), 1 ≤ nsize n m ∧ nsize n m ≤ max 1 m
  | .mk _ _ _ _ l, m => by simp only [nsize]; exact nsizes_bd l 1 m (by omega) (by omega)
theorem nsizes_bd : ∀ (l : List Nd) (t m : Int), 1 ≤ t → t ≤ max 1 m → t ≤ nsizes l t m ∧ nsizes l t m ≤ max 1 m
  | [], t, m, h, h' => by simp only [nsizes]; omega
  | a :: l, t, m, h, h' => by
    simp only [nsizes]
    split
    · rename_i hlt
      have h1 := nsize_bd a (m - t)
      have h2 := nsizes_bd l (t + nsize a (m - t)) m (by omega) (by omega)
      omega
    · omega
end
mutual
/-- Counted to its end: no deeper than it is large. -/
theorem nsize_depth : ∀ (n : Nd) (m : Int), nsize n m < m → (n.depth : Int) ≤ nsize n m
  | .mk _ _ _ _ l, m, h => by
    simp only [nsize] at h ⊢
    have := nsizes_depth l 1 m (by omega) h
    simp only [Nd.depth]
    omega
theorem nsizes_depth : ∀ (l : List Nd) (t m : Int), 1 ≤ t → nsizes l t m < m → (ndepths l : Int) + t ≤ nsizes l t m
  | [], t, m, _, h => by simp only [nsizes, ndepths]; omega
  | a :: l, t, m, ht, h => by
    simp only [nsizes] at h ⊢
    split at h
    · rename_i hlt
      rw [if_pos hlt]
      have hb := nsize_bd a (m - t)
      have h2 := nsizes_depth l (t + nsize a (m - t)) m (by omega) h
      have hm := (nsizes_bd l (t + nsize a (m - t)) m (by omega) (by omega)).1
      have h1 := nsize_depth a (m - t) (by omega)
      simp only [ndepths]
      omega
    · omega
end
theorem nsizes_drop {l : List Nd} {j : Nat} {a : Nd} (h : l[j]? = some a) (t m : Int) : nsizes (l.drop j) t m = if t < m then nsizes (l.drop (j + 1)) (t + nsize a (m - t)) m else t := by
  obtain ⟨h1, rfl⟩ := List.getElem?_eq_some_iff.1 h
  rw [List.drop_eq_getElem_cons h1]
  rfl
end
end Go.Proofs.Ytldmdlkjpdfonaa
