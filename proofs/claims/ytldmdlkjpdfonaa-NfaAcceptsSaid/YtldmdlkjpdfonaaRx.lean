/- Plain words of the expression parser: nodes, sets as numbers, the parser as a function of text and place. No program in sight. -/
import GoSem.Core.Value
namespace Go.Proofs.Ytldmdlkjpdfonaa
set_option linter.unusedVariables false
set_option linter.unusedSimpArgs false

/-- An expression. The set is a number: byte b is in it, if its bit b is 1. -/
inductive Nd where
  | mk (kind : Int) (set : Nat) (mn mx : Int) (subs : List Nd)
namespace Nd
def kind : Nd → Int | mk k _ _ _ _ => k
def set : Nd → Nat | mk _ s _ _ _ => s
def mn : Nd → Int | mk _ _ m _ _ => m
def mx : Nd → Int | mk _ _ _ m _ => m
def subs : Nd → List Nd | mk _ _ _ _ l => l
end Nd

/-- The i-th word of a set. -/
def wd (s i : Nat) : Int := (s / 2 ^ (64 * i) % 2 ^ 64 : Nat)

/-- The byte at a place; -1: none. -/
def nx (s : ByteArray) (i : Nat) : Int := if h : i < s.size then (s[i].toNat : Int) else -1
theorem nx_ge (s : ByteArray) (i : Nat) : -1 ≤ nx s i := by unfold nx; split <;> omega
theorem nx_le (s : ByteArray) (i : Nat) : nx s i ≤ 255 := by
  unfold nx; split
  · have := s[i].toNat_lt; omega
  · omega
theorem nx_nonneg {s : ByteArray} {i : Nat} (h : 0 ≤ nx s i) : i < s.size := by
  unfold nx at h; split at h
  · assumption
  · omega
theorem nx_lt {s : ByteArray} {i : Nat} (h : i < s.size) : nx s i = (s[i].toNat : Int) := by unfold nx; rw [dif_pos h]
theorem nx_out {s : ByteArray} {i : Nat} (h : s.size ≤ i) : nx s i = -1 := by unfold nx; rw [dif_neg (by omega)]
theorem nx_pos {s : ByteArray} {i : Nat} (h : i < s.size) : 0 ≤ nx s i := by rw [nx_lt h]; omega

/-- What a reader comes to: something, and the place behind it; a place that is wrong; or it was given too few rounds. -/
inductive R (α : Type) where
  | ok (a : α) (j : Nat)
  | bad (k : Nat)
  | out
def R.bind {α β : Type} : R α → (α → Nat → R β) → R β
  | .ok a j, f => f a j
  | .bad k, _ => .bad k
  | .out, _ => .out

/-- Where a number stands in a list; -1: nowhere. -/
def ixOf (l : List Nat) (c : Int) : Int := match l.findIdx? (fun (x : Nat) => (x : Int) == c) with | some i => (i : Int) | none => -1
def hexes : List Nat := [48, 49, 50, 51, 52, 53, 54, 55, 56, 57, 97, 98, 99, 100, 101, 102]
def special : List Nat := [124, 42, 43, 63, 40, 41, 91, 93, 123, 125, 46, 92, 94, 36, 45]
def signs : List Nat := [32, 33, 34, 35, 37, 38, 39, 44, 47, 58, 59, 60, 61, 62, 64, 95, 96, 126]
/-- Does a byte stand for itself? -/
def plainB (c : Int) : Bool := (97 ≤ c && c ≤ 122) || (65 ≤ c && c ≤ 90) || (48 ≤ c && c ≤ 57) || decide (0 ≤ ixOf signs c)

def oneS (b : Int) : Nat := 2 ^ b.toNat
/-- The bytes of a range. -/
def ofS (lo hi : Int) : Nat := 2 ^ (hi.toNat + 1) - 2 ^ lo.toNat
def allS : Nat := 2 ^ 256 - 1
def notS (s : Nat) : Nat := allS - s % 2 ^ 256
def orS (s t : Nat) : Nat := s ||| t

namespace Rx
def digit (s : ByteArray) (i : Nat) : R Int := if 0 ≤ ixOf hexes (nx s i) then .ok (ixOf hexes (nx s i)) (i + 1) else .bad i
/-- Behind its backslash. -/
def escape (s : ByteArray) (i : Nat) : R Int :=
  if nx s i < 0 then .bad i
  else if nx s i = 120 then (digit s (i + 1)).bind fun a j => (digit s j).bind fun b k => .ok (16 * a + b) k
  else if nx s i = 110 then .ok 10 (i + 1)
  else if nx s i = 116 then .ok 9 (i + 1)
  else if 0 ≤ ixOf special (nx s i) then .ok (nx s i) (i + 1) else .bad i
def one (s : ByteArray) (i : Nat) : R Int :=
  if nx s i = 92 then escape s (i + 1)
  else if 0 ≤ nx s i ∧ plainB (nx s i) = true then .ok (nx s i) (i + 1) else .bad i
def span (s : ByteArray) (i : Nat) : R Nat :=
  (one s i).bind fun lo j =>
    if nx s j = 45 then (one s (j + 1)).bind fun hi k => if lo ≤ hi then .ok (ofS lo hi) k else .bad (j + 1)
    else .ok (oneS lo) j
def classLoop (s : ByteArray) : Nat → Nat → Nat → R Nat
  | 0, _, _ => .out
  | k + 1, i, a => if nx s i = 93 then .ok a i else (span s i).bind fun b j => classLoop s k j (orS a b)
/-- Behind its bracket. -/
def cls (s : ByteArray) (i : Nat) : R Nat :=
  let not := nx s i = 94
  (classLoop s (s.size + 1) (if not then i + 1 else i) 0).bind fun a j => .ok (if not then notS a else a) (j + 1)
def isDig (c : Int) : Bool := decide (48 ≤ c) && decide (c ≤ 57)
def number (s : ByteArray) (i : Nat) : R Int :=
  if isDig (nx s i) = true then
    if isDig (nx s (i + 1)) = true then
      if 10 * (nx s i - 48) + (nx s (i + 1) - 48) ≤ 20 then .ok (10 * (nx s i - 48) + (nx s (i + 1) - 48)) (i + 2) else .bad i
    else .ok (nx s i - 48) (i + 1)
  else .bad i
def must (s : ByteArray) (c : Int) (i : Nat) : R Unit := if nx s i = c then .ok () (i + 1) else .bad i
/-- Behind the brace. -/
def bounds (s : ByteArray) (i : Nat) : R (Int × Int) :=
  (number s i).bind fun m j =>
    if nx s j = 44 then
      if nx s (j + 1) = 125 then .ok (m, -1) (j + 2)
      else (number s (j + 1)).bind fun n k => if m ≤ n then (must s 125 k).bind fun _ k' => .ok (m, n) k' else .bad (j + 1)
    else (must s 125 j).bind fun _ k' => .ok (m, m) k'

section
-- sub: what reads an alt behind a bracket; none: too many stand open.
variable (s : ByteArray) (sub : Option (Nat → R Nd))
def atom (i : Nat) : R Nd :=
  if nx s i = 40 then
    match sub with
    | none => .bad i
    | some alt => (alt (i + 1)).bind fun n j => (must s 41 j).bind fun _ k => .ok n k
  else if nx s i = 46 then .ok (.mk 2 (ofS 0 255) 0 0 []) (i + 1)
  else if nx s i = 91 then (cls s (i + 1)).bind fun a j => .ok (.mk 2 a 0 0 []) j
  else (one s i).bind fun b j => .ok (.mk 2 (oneS b) 0 0 []) j
def item (i : Nat) : R Nd :=
  (atom s sub i).bind fun a j =>
    if nx s j = 42 then .ok (.mk 5 0 0 (-1) [a]) (j + 1)
    else if nx s j = 43 then .ok (.mk 5 0 1 (-1) [a]) (j + 1)
    else if nx s j = 63 then .ok (.mk 5 0 0 1 [a]) (j + 1)
    else if nx s j = 123 then (bounds s (j + 1)).bind fun b k => .ok (.mk 5 0 b.1 b.2 [a]) k
    else .ok a j
def ends (i : Nat) : Bool := decide (nx s i < 0) || nx s i == 124 || nx s i == 41
def of (kind : Int) : List Nd → Nd
  | [] => .mk 1 0 0 0 []
  | [n] => n
  | l => .mk kind 0 0 0 l
def catLoop : Nat → Nat → List Nd → R (List Nd)
  | 0, _, _ => .out
  | k + 1, i, l => if ends s i = true then .ok l i else (item s sub i).bind fun n j => catLoop k j (l ++ [n])
def cat (i : Nat) : R Nd := (catLoop s sub (s.size + 1) i []).bind fun l j => .ok (of 3 l) j
def altLoop : Nat → Nat → List Nd → R (List Nd)
  | 0, _, _ => .out
  | k + 1, i, l => if nx s i = 124 then (cat s sub (i + 1)).bind fun n j => altLoop k j (l ++ [n]) else .ok l i
def altF (i : Nat) : R Nd := (cat s sub i).bind fun n j => (altLoop s sub (s.size + 1) j [n]).bind fun l k => .ok (of 4 l) k
end
/-- With so many brackets left. -/
def alt (s : ByteArray) : Nat → Nat → R Nd
  | 0 => altF s none
  | d + 1 => altF s (some (alt s d))
/-- The expression of a text; the place that is wrong. -/
def parse (s : ByteArray) : R Nd := (alt s 12 0).bind fun n j => if j = s.size then .ok n 0 else .bad j
end Rx
end Go.Proofs.Ytldmdlkjpdfonaa
