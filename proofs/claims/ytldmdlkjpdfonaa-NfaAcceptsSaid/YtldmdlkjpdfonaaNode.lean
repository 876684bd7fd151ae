/- Expressions as nested data in memory: their cells. No condition. Whether two sets are the same. -/
import Derived.Test.YtldmdlkjpdfonaaSets
import Derived.Test.YtldmdlkjpdfonaaRx
namespace Go.Proofs.Ytldmdlkjpdfonaa
set_option linter.unusedVariables false
set_option linter.unusedSimpArgs false
section
open Go Go.RowKit

mutual
/-- The eight cells of an expression. -/
def encN : Nd → List D
  | .mk k s mn mx l => [.v (.int .i64 k), .v (.int .u64 (wd s 0)), .v (.int .u64 (wd s 1)), .v (.int .u64 (wd s 2)), .v (.int .u64 (wd s 3)), .v (.int .i64 mn), .v (.int .i64 mx), .sl 37 l.length (encNs l)]
def encNs : List Nd → List D
  | [] => []
  | n :: l => encN n ++ encNs l
end
theorem encN_len (n : Nd) : (encN n).length = 8 := by cases n; simp [encN]
theorem encNs_len : ∀ l : List Nd, (encNs l).length = 8 * l.length
  | [] => by simp [encNs]
  | n :: l => by simp only [encNs, List.length_append, encN_len, encNs_len l, List.length_cons]; omega
theorem encNs_append : ∀ l m : List Nd, encNs (l ++ m) = encNs l ++ encNs m
  | [], m => by simp [encNs]
  | n :: l, m => by simp [encNs, encNs_append l m]
theorem encNs_one (n : Nd) : encNs [n] = encN n := by simp [encNs]
theorem encNs_at : ∀ (l : List Nd) (i : Nat) (n : Nd), l[i]? = some n → ((encNs l).drop (8 * i)).take 8 = encN n
  | [], i, n, h => by simp at h
  | m :: l, 0, n, h => by
    simp at h; subst h
    simp only [encNs, Nat.mul_zero, List.drop_zero]
    rw [← encN_len m, List.take_left]
  | m :: l, i + 1, n, h => by
    have := encNs_at l i n (by simpa using h)
    simp only [encNs]
    rw [show 8 * (i + 1) = (encN m).length + 8 * i by rw [encN_len]; omega, List.drop_append, List.drop_eq_nil_of_le (by omega), Nat.add_sub_cancel_left]
    simpa using this

/-- The cells of an expression whose Subs lie at A. -/
def nodeA (n : Nd) (A : Option Addr) (cap : Nat) : Array Value :=
  #[.int .i64 n.kind, .int .u64 (wd n.set 0), .int .u64 (wd n.set 1), .int .u64 (wd n.set 2), .int .u64 (wd n.set 3), .int .i64 n.mn, .int .i64 n.mx, .slice A n.subs.length cap]
theorem wd_zero (i : Nat) : wd 0 i = 0 := by simp [wd]
theorem nodeA_lit (k : Int) (mn mx : Int) (l : List Nd) (A : Option Addr) (cap : Nat) : nodeA (.mk k 0 mn mx l) A cap = #[.int .i64 k, .int .u64 0, .int .u64 0, .int .u64 0, .int .u64 0, .int .i64 mn, .int .i64 mx, .slice A l.length cap] := by
  simp [nodeA, wd_zero, Nd.kind, Nd.set, Nd.mn, Nd.mx, Nd.subs]
/-- A value is an expression, what it leads to lies in S. -/
def NodeIn (w : World) (S : Nat → Prop) (v : Value) (n : Nd) : Prop := ∃ A cap, v = .agg (nodeA n A cap) ∧ Rep w S (.slice A n.subs.length cap) (.sl 37 n.subs.length (encNs n.subs))
/-- A slice is expressions. -/
def NodesIn (w : World) (S : Nat → Prop) (v : Value) (l : List Nd) : Prop := Rep w S v (.sl 37 l.length (encNs l))
def NewN (w : World) : World → Value → Nd → Prop := fun w' v n => NodeIn w' (fun k => w.heap.size ≤ k) v n

theorem infoNode : (Try.prog.info? 37).map (·.size) = some 8 := by kernel_rfl
theorem infoNode3 : (Try.prog.info? 37).map (fun i => (i.zero, i.size, i.bytes)) = some (some (.agg #[.int .i64 0, .int .u64 0, .int .u64 0, .int .u64 0, .int .u64 0, .int .i64 0, .int .i64 0, .slice none 0 0]), 8, 80) := by kernel_rfl
theorem zn_one : (#[.int .i64 0, .int .u64 0, .int .u64 0, .int .u64 0, .int .u64 0, .int .i64 0, .int .i64 0, .slice none 0 0] : Array Value).all (·.oneCell') = true := by simp [Value.oneCell']
theorem nodeA_one (n : Nd) (A : Option Addr) (cap : Nat) : (nodeA n A cap).all (·.oneCell') = true := by simp [nodeA, Value.oneCell']

section
variable {w w' : World} {S S' : Nat → Prop} {v : Value} {n : Nd}
theorem NodeIn.mono (h : NodeIn w S v n) (hk : ∀ k, S k → k < w.heap.size → w'.heap[k]? = w.heap[k]? ∧ S' k) : NodeIn w' S' v n := by
  obtain ⟨A, cap, hv, hr⟩ := h
  exact ⟨A, cap, hv, hr.mono hk⟩
theorem NodeIn.fr {M : Nat → Prop} (h : NodeIn w S v n) (hf : Fr M w w') (hs : ∀ k, S k → k < w.heap.size → ¬ M k ∧ S' k) : NodeIn w' S' v n :=
  h.mono fun k hk hl => ⟨hf.block k hl (hs k hk hl).1, (hs k hk hl).2⟩
theorem NodeIn.sub (h : NodeIn w S v n) (hs : ∀ k, S k → k < w.heap.size → S' k) : NodeIn w S' v n := h.mono fun k hk hl => ⟨rfl, hs k hk hl⟩
/-- Its eight cells stand for it. -/
theorem NodeIn.cells {A : Option Addr} {cap : Nat} (h : Rep w S (.slice A n.subs.length cap) (.sl 37 n.subs.length (encNs n.subs))) : Reps w S (nodeA n A cap).toList (encN n) := by
  cases n
  simp only [nodeA, encN, Nd.kind, Nd.set, Nd.mn, Nd.mx, Nd.subs] at *
  exact .cons (.v rfl) (.cons (.v rfl) (.cons (.v rfl) (.cons (.v rfl) (.cons (.v rfl) (.cons (.v rfl) (.cons (.v rfl) (.cons h .nil)))))))
theorem NodeIn.ofCells {cs : List Value} (h : Reps w S cs (encN n)) : ∃ A cap, cs = (nodeA n A cap).toList ∧ Rep w S (.slice A n.subs.length cap) (.sl 37 n.subs.length (encNs n.subs)) := by
  obtain ⟨k, s, mn, mx, l⟩ := n
  simp only [encN] at h
  cases h with | cons h0 h => cases h with | cons h1 h => cases h with | cons h2 h => cases h with | cons h3 h => cases h with | cons h4 h => cases h with | cons h5 h => cases h with | cons h6 h => cases h with | cons h7 h =>
  cases h
  have e := h7.sl_inv
  obtain ⟨A, cap, rfl, _, _⟩ := e
  refine ⟨A, cap, ?_, h7⟩
  rw [h0.v_inv, h1.v_inv, h2.v_inv, h3.v_inv, h4.v_inv, h5.v_inv, h6.v_inv]
  rfl
theorem NodeIn.leaf (w : World) (S : Nat → Prop) (k : Int) (s : Nat) (mn mx : Int) : NodeIn w S (.agg (nodeA (.mk k s mn mx []) none 0)) (.mk k s mn mx []) :=
  ⟨none, 0, rfl, by simp only [Nd.subs, encNs, List.length_nil]; exact .nil0 (Nat.zero_le _)⟩
/-- The i-th of some expressions. -/
theorem NodesIn.at_ {A : Option Addr} {l : List Nd} {cap i : Nat} (h : NodesIn w S (.slice A l.length cap) l) (hi : l[i]? = some n) :
    ∃ b off A' cap', A = some ⟨b, off, none⟩ ∧ S b ∧ b < w.heap.size ∧ w.rangeAt b (off + 8 * i) (nodeA n A' cap').toList ∧ Rep w S (.slice A' n.subs.length cap') (.sl 37 n.subs.length (encNs n.subs)) := by
  have hlt : i < l.length := (List.getElem?_eq_some_iff.1 hi).1
  obtain ⟨b, off, cs, rfl, hS, hlt', hr, hl, hreps⟩ := Rep.at_ h (o := 8 * i) (n := 8) (by decide) (by rw [encNs_len]; omega)
  rw [encNs_at l i n hi] at hreps
  obtain ⟨A', cap', rfl, hrep⟩ := NodeIn.ofCells hreps
  exact ⟨b, off, A', cap', rfl, hS, hlt', hr, hrep⟩
end
end
section
open Go Go.RowKit
set_option maxRecDepth 100000 in
theorem eq_set (x0 x1 x2 x3 y0 y1 y2 y3 : Int) (w : World) :
    (Op.equalIn 10000 35 (.agg #[.int .u64 x0, .int .u64 x1, .int .u64 x2, .int .u64 x3]) (.agg #[.int .u64 y0, .int .u64 y1, .int .u64 y2, .int .u64 y3])).run Try.prog w = .ok (x0 == y0 && x1 == y1 && x2 == y2 && x3 == y3) w := by
  have hi : ∀ (a b : Int) (W : World), (Op.equalIn 9999 33 (.int .u64 a) (.int .u64 b)).run Try.prog W = .ok (a == b) W := fun a b W => run_equalIn_int W 9998 33 .u64 _ a b rfl
  have hs : ∀ W : World, (sizeOf 33).run Try.prog W = .ok 1 W := fun _ => by kernel_rfl
  have hp : ∀ (a b c d : Int) (W : World), (part 33 #[.int .u64 a, .int .u64 b, .int .u64 c, .int .u64 d] 0).run Try.prog W = .ok (.int .u64 a) W ∧ (part 33 #[.int .u64 a, .int .u64 b, .int .u64 c, .int .u64 d] 1).run Try.prog W = .ok (.int .u64 b) W ∧
      (part 33 #[.int .u64 a, .int .u64 b, .int .u64 c, .int .u64 d] 2).run Try.prog W = .ok (.int .u64 c) W ∧ (part 33 #[.int .u64 a, .int .u64 b, .int .u64 c, .int .u64 d] 3).run Try.prog W = .ok (.int .u64 d) W := fun a b c d W => ⟨by simp [go_sem], by simp [go_sem], by simp [go_sem], by simp [go_sem]⟩
  have hu : Try.prog.underlying 35 = some (.array 4 33) := rfl
  rw [show (10000 : Nat) = 9999 + 1 from rfl]
  generalize 9999 = d at *
  simp only [Op.equalIn, Sem.run_bind, run_underlying hu, Result.andThen_ok, hs]
  simp only [Std.Legacy.Range.forIn_eq_forIn_range', Std.Legacy.Range.size, List.range', Nat.reduceAdd, Nat.reduceSub, Nat.reduceDiv, List.forIn_cons, List.forIn_nil, Sem.run_bind, Nat.mul_one, Nat.zero_add, (hp _ _ _ _ _).1, (hp _ _ _ _ _).2.1, (hp _ _ _ _ _).2.2.1, (hp _ _ _ _ _).2.2.2, Result.andThen_ok, hi]
  cases h0 : (x0 == y0) <;> cases h1 : (x1 == y1) <;> cases h2 : (x2 == y2) <;> cases h3 : (x3 == y3) <;> simp_all
end
end Go.Proofs.Ytldmdlkjpdfonaa
