/- Plain words of expressions: how deep they are, and whether two are the same. -/
import Derived.Test.YtcphepjfnnbonaaRx
namespace Go.Proofs.Ytcphepjfnnbonaa
set_option linter.unusedVariables false
set_option linter.unusedSimpArgs false

mutual
def Nd.depth : Nd → Nat
  | .mk _ _ _ _ l => ndepths l + 1
def ndepths : List Nd → Nat
  | [] => 0
  | n :: l => max n.depth (ndepths l)
end
theorem ndepths_append : ∀ l m : List Nd, ndepths (l ++ m) = max (ndepths l) (ndepths m)
  | [], m => by simp [ndepths]
  | n :: l, m => by simp only [List.cons_append, ndepths, ndepths_append l m]; omega
theorem ndepths_take {l : List Nd} {i : Nat} {n : Nd} (h : l[i]? = some n) : ndepths (l.take (i + 1)) = max (ndepths (l.take i)) n.depth := by
  rw [List.take_add_one, h, ndepths_append]
  simp [ndepths]
theorem ndepths_get : ∀ {l : List Nd} {i : Nat} {n : Nd}, l[i]? = some n → n.depth ≤ ndepths l
  | [], _, _, h => by simp at h
  | a :: l, 0, n, h => by simp at h; subst h; simp only [ndepths]; omega
  | a :: l, i + 1, n, h => by have := ndepths_get (l := l) (i := i) (by simpa using h); simp only [ndepths]; omega
theorem Nd.depth_eq (n : Nd) : n.depth = ndepths n.subs + 1 := by cases n; rfl

/-- The words of the sets alike. -/
def sameHead (a b : Nd) : Bool := a.kind == b.kind && (wd a.set 0 == wd b.set 0 && wd a.set 1 == wd b.set 1 && wd a.set 2 == wd b.set 2 && wd a.set 3 == wd b.set 3) && a.mn == b.mn && a.mx == b.mx
mutual
def Nd.same : Nd → Nd → Bool
  | .mk k s mn mx l, .mk k' s' mn' mx' l' => sameHead (.mk k s mn mx []) (.mk k' s' mn' mx' []) && nsames l l'
def nsames : List Nd → List Nd → Bool
  | [], [] => true
  | a :: l, b :: m => a.same b && nsames l m
  | _, _ => false
end
theorem Nd.same_eq (a b : Nd) : a.same b = (sameHead a b && nsames a.subs b.subs) := by cases a; cases b; rfl
theorem nsames_len : ∀ {l m : List Nd}, l.length ≠ m.length → nsames l m = false
  | [], [], h => absurd rfl h
  | [], _ :: _, _ => rfl
  | _ :: _, [], _ => rfl
  | a :: l, b :: m, h => by
    simp only [nsames]
    rw [nsames_len (l := l) (m := m) (by simpa using h)]
    simp
mutual
theorem Nd.same_self : ∀ a : Nd, a.same a = true
  | .mk k s mn mx l => by simp only [Nd.same, nsames_self l]; simp [sameHead]
theorem nsames_self : ∀ l : List Nd, nsames l l = true
  | [] => rfl
  | a :: l => by simp only [nsames, a.same_self, nsames_self l]; rfl
end
theorem nsames_drop {l m : List Nd} {i : Nat} {a b : Nd} (ha : l[i]? = some a) (hb : m[i]? = some b) : nsames (l.drop i) (m.drop i) = (a.same b && nsames (l.drop (i + 1)) (m.drop (i + 1))) := by
  obtain ⟨h1, rfl⟩ := List.getElem?_eq_some_iff.1 ha
  obtain ⟨h2, rfl⟩ := List.getElem?_eq_some_iff.1 hb
  rw [List.drop_eq_getElem_cons h1, List.drop_eq_getElem_cons h2]
  rfl
end Go.Proofs.Ytcphepjfnnbonaa
