/- Rows of truth values: how they stand on, and what a store makes of them; a row is made. No program in sight but its types. The walks of sieveref11.in and or: is a byte in a set; places of another set, too. No condition but: both of one length. -/
import Derived.Test.YtldmdlkjpdfonaaCl2
import Derived.Test.YtldmdlkjpdfonaaBit
namespace Go.Proofs.Ytldmdlkjpdfonaa
set_option linter.unusedVariables false
set_option linter.unusedSimpArgs false
section
open Go Go.RowKit
theorem RowB.fr {w w' : World} {B G n cap : Nat} {f : Nat → Bool} {M : Nat → Prop} (h : RowB w B (.slice (some ⟨G, 0, none⟩) n cap) n f) (hf : Fr M w w') (hn : ¬ M G) : RowB w' B (.slice (some ⟨G, 0, none⟩) n cap) n f := by
  obtain ⟨h3, h4⟩ := h
  refine ⟨h3, ?_⟩
  rcases h4 with ⟨h, _⟩ | ⟨g, cap2, cur, he, hg, hh, rest⟩
  · cases h
  · have e2 := he
    injection he with e1
    injection e1 with e1
    injection e1 with e1
    subst e1
    exact .inr ⟨G, cap2, cur, e2, hg, (hf.block G (Array.getElem?_eq_some_iff.1 hh).1 hn).trans hh, rest⟩
theorem RowB.lt {w : World} {B G n cap : Nat} {f : Nat → Bool} (h : RowB w B (.slice (some ⟨G, 0, none⟩) n cap) n f) : B ≤ G ∧ G < w.heap.size := World.ownsRow.lt h G rfl
theorem RowB.base {w : World} {B B' : Nat} {v : Value} {n : Nat} {f : Nat → Bool} (h : RowB w B v n f) (hb : B' ≤ B) : RowB w B' v n f := by
  obtain ⟨h3, h4⟩ := h
  refine ⟨h3, h4.imp id ?_⟩
  rintro ⟨g, c, cur, he, hg, hr⟩
  exact ⟨g, c, cur, he, by omega, hr⟩
/-- A truth value is stored. -/
theorem RowB.put {w : World} {B G n cap : Nat} {f : Nat → Bool} (h : RowB w B (.slice (some ⟨G, 0, none⟩) n cap) n f) (e : Nat) (b : Bool) : RowB (w.setCell ⟨G, e, none⟩ (.bool b)) B (.slice (some ⟨G, 0, none⟩) n cap) n (fun i => if i = e then b else f i) := by
  obtain ⟨h1, _⟩ := World.ownsRow.stored h e (.bool b)
  unfold RowB rowB
  unfold rowB at h1
  rw [rowV_set] at h1
  rwa [show rowV n (fun i => if i = e then Value.bool b else .bool (f i)) = rowV n (fun i => .bool (if i = e then b else f i)) from rowV_congr fun i _ => by split <;> rfl] at h1
theorem RowB.congr {w : World} {B n : Nat} {v : Value} {f g : Nat → Bool} (h : RowB w B v n f) (he : ∀ i, i < n → f i = g i) : RowB w B v n g := by
  unfold RowB rowB at h ⊢
  rwa [rowV_congr fun i hi => by rw [he i hi]] at h
theorem BoolsIn.congr {w : World} {S : Nat → Prop} {n : Nat} {v : Value} {f g : Nat → Bool} (h : BoolsIn w S v n f) (he : ∀ i, i < n → f i = g i) : BoolsIn w S v n g := by
  unfold BoolsIn encB rowB at h ⊢
  rwa [rowV_congr fun i hi => by rw [he i hi]] at h
end
section
open Go Go.RowKit

set_option maxRecDepth 100000 in
set_option maxHeartbeats 800000 in
theorem in11_c (s b : Nat) (w : World) (hb : b < 256) : Calls Try.prog 63 #[.agg (setA s), .int .u8 b] w fun e w' => e = .returned (.bool (s.testBit b)) ∧ Fr No w w' := by
  obtain ⟨q, hqn⟩ : ∃ q, b / 64 = q := ⟨_, rfl⟩
  have hbit := hid (has_bit s b q hqn)
  have hq : (b : Int) / 64 = (q : Int) := by omega
  have hqq : q = 0 ∨ q = 1 ∨ q = 2 ∨ q = 3 := by omega
  have hr0 : (0 : Int) ≤ (b : Int) % 64 := by omega
  have hr1 : (b : Int) % 64 < 64 := by omega
  clear hqn
  unfold setA
  rcases hqq with rfl | rfl | rfl | rfl
  all_goals
    simp only [Int.natCast_zero, Int.cast_ofNat_Int] at hq
    go_enter Try.func63, Try.ntmps63
    go_wp2
    go_ret
    exact ⟨by rw [hbit.out]; rfl, (Fr.refl No w).alloc _⟩

/-- Joined up to k. -/
def orTo (k : Nat) (f g : Nat → Bool) : Nat → Bool := fun i => if i < k then f i || g i else f i
def came (k : Nat) (f g : Nat → Bool) : Bool := (List.range k).any fun j => g j && !f j
theorem came_succ (k : Nat) (f g : Nat → Bool) : came (k + 1) f g = (came k f g || (g k && !f k)) := by
  unfold came
  rw [List.range_succ, List.any_append]
  simp
theorem orTo_set (k : Nat) (f g : Nat → Bool) : (fun i => if i = k then (f k || g k) else orTo k f g i) = orTo (k + 1) f g := by
  funext i
  unfold orTo
  by_cases h : i = k
  · subst h; simp
  · rw [if_neg h]
    by_cases h2 : i < k
    · rw [if_pos h2, if_pos (by omega)]
    · rw [if_neg h2, if_neg (by omega)]
set_option maxRecDepth 100000 in
set_option maxHeartbeats 8000000 in
theorem or_c (G n cap B : Nat) (f g : Nat → Bool) (A2 : Option Addr) (cap2 : Nat) (w : World) (ho : RowB w B (.slice (some ⟨G, 0, none⟩) n cap) n f) (hg : BoolsIn w (fun k => k ≠ G) (.slice A2 n cap2) n g) (hn : 0 < n) (hn32 : n < 4294967296) :
    Calls Try.prog 64 #[.slice (some ⟨G, 0, none⟩) n cap, .slice A2 n cap2] w fun e w' => e = .returned (.bool (came n f g)) ∧ RowB w' B (.slice (some ⟨G, 0, none⟩) n cap) n (orTo n f g) ∧ Fr (At G) w w' := by
  obtain ⟨b2, off2, rfl, hS2, hr2⟩ := bools_cells hg hn
  go_enter Try.func64, Try.ntmps64
  go_wp2_with fail
  go_loopg [5, 6] n (fun gk t i wr => ∃ j : Nat, j + gk = n ∧ i = .int .i64 j ∧ t = .bool (came j f g) ∧ RowB wr B (.slice (some ⟨G, 0, none⟩) n cap) n (orTo j f g) ∧ Fr (At G) w wr)
  case atStart => exact ⟨0, by omega, rfl, rfl, ho, Fr.refl _ w⟩
  case round =>
    obtain ⟨j, hj, rfl, rfl, hr, hF⟩ := hrel
    clear ho hg
    cases gk with
    | zero =>
      have hd1 : decide (j < n) = false := decide_eq_false (by omega)
      have hjn : j = n := by omega
      rw [hjn] at hr
      clear hjn
      have he := hid (show came j f g = came n f g by rw [show j = n by omega])
      have hge : n ≤ j := by omega
      have HF := hid hF
      go_wp2_with fail
      go_ret
      exact ⟨by rw [he.out]; rfl, hr, hF⟩
    | succ g2 =>
      have hjn : j < n := by omega
      have hjN : (j : Int) < (n : Int) := by omega
      have hd1 : decide (j < n) = true := decide_eq_true hjn
      have hc1 := hr.cell hjn
      rw [show orTo j f g j = f j from if_neg (by omega)] at hc1
      have hz1 := World.ownsRow.frozenAt hr j
      have hc2 : wr.cell? ⟨b2, off2 + j, none⟩ = some (.bool (g j)) := (range_fr hr2 hF hS2) j _ (rowV_get _ hjn)
      have hs := came_succ j f g
      have hst := hr.put j (f j || g j)
      rw [show (fun i => if i = j then (f j || g j) else orTo j f g i) = orTo (j + 1) f g from orTo_set j f g] at hst
      have hfs : Fr (At G) wr (wr.setCell ⟨G, j, none⟩ (.bool (f j || g j))) := (Fr.refl (At G) wr).setB j _
      have hF2 := hF.call hfs fun _ _ h => h
      have hsz : j + (g2 + 1) = n := hj
      clear hj hr
      cases hcm : came j f g <;> cases hfj : f j <;> cases hgj : g j
      all_goals
        rw [hfj] at hc1
        rw [hgj] at hc2
        have Hst := hid hst
        have Hs := hid hs
        have HF := hid hF2
        rw [hfj, hgj] at Hst HF
        rw [hcm, hfj, hgj] at Hs
        clear hst hs hF2 hfs hfj hgj hcm
        go_wp2_with fail
        go_roundg g2
        case measure => omega
        case rel => exact ⟨j + 1, by omega, (by first | rfl | exact wrap_succ (by omega)), by rw [Hs.out]; rfl, Hst.out, HF.out⟩
end
end Go.Proofs.Ytldmdlkjpdfonaa
