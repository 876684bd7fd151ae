/- Words for nfa.Build: the rules' states in the builder's row; and the walk of a build whose first state met a limit. The walk of nfa.Build: what isn't plain, or too much, is refused. -/
import Derived.Test.YtldmdlkjpdfonaaNm8
import Derived.Test.YtldmdlkjpdfonaaPl
namespace Go.Proofs.Ytldmdlkjpdfonaa
set_option linter.unusedVariables false
set_option linter.unusedSimpArgs false
section
open Go Go.RowKit

/-- One rule more. -/
def stepR (a : Nd) (i : Nat) (r : Bst × List Nat) : Bst × List Nat :=
  ((nodeB a (r.1.add ⟨0, -1, (i : Int), []⟩).2 (r.1.add ⟨0, -1, (i : Int), []⟩).1).1,
   if (nodeB a (r.1.add ⟨0, -1, (i : Int), []⟩).2 (r.1.add ⟨0, -1, (i : Int), []⟩).1).1.e = 0 then r.2 ++ [(nodeB a (r.1.add ⟨0, -1, (i : Int), []⟩).2 (r.1.add ⟨0, -1, (i : Int), []⟩).1).2] else r.2)
theorem rulesB_app : ∀ (l : List Nd) (a : Nd) (i : Nat) (b : Bst) (eps : List Nat), rulesB (l ++ [a]) i b eps = stepR a (i + l.length) (rulesB l i b eps)
  | [], a, i, b, eps => rfl
  | x :: l, a, i, b, eps => by
    simp only [List.cons_append, rulesB]
    rw [rulesB_app l a (i + 1)]
    rw [show i + 1 + l.length = i + (x :: l).length by simp only [List.length_cons]; omega]
theorem rulesB_take {l : List Nd} {j : Nat} {a : Nd} (h : l[j]? = some a) (b : Bst) (eps : List Nat) : rulesB (l.take (j + 1)) 0 b eps = stepR a j (rulesB (l.take j) 0 b eps) := by
  have hlt := (List.getElem?_eq_some_iff.1 h).1
  rw [List.take_add_one, h]
  show rulesB (l.take j ++ [a]) 0 b eps = _
  rw [rulesB_app, List.length_take, Nat.min_eq_left (by omega), Nat.zero_add]
theorem rulesB_len : ∀ (l : List Nd) (i : Nat) (b : Bst) (eps : List Nat), Fits b.m → (rulesB l i b eps).1.st.length ≤ b.st.length + nfaRulesLen l := by
  intro l i b eps hf
  by_cases he : b.e = 0
  · rcases rulesB_run l i b eps he hf with ⟨m', hr, _⟩ | ⟨_, _, k, _, _, h1, h2, _⟩
    · rw [hr]; exact Nat.le_of_eq (nfaRules_len l i b.st)
    · omega
  · rw [rulesB_dead _ _ _ _ he]; exact Nat.le_add_right _ _
theorem add_len (b : Bst) (x : NS) (hf : Fits b.m) : (b.add x).1.st.length ≤ b.st.length + 1 := by
  by_cases he : b.e = 0
  · rcases Bst.add_run b x he hf with ⟨m', hr, _⟩ | ⟨_, _, kk, _, _, h1, h2, _⟩
    · rw [hr]; simp
    · omega
  · rw [Bst.add_dead _ _ he]; exact Nat.le_add_right _ _
theorem rulesLen_le : ∀ l : List Nd, nfaRulesLen l ≤ ncounts l + l.length
  | [] => Nat.le_refl _
  | a :: l => by simp only [nfaRulesLen, ncounts, List.length_cons]; have := nfaLen_le a; have := rulesLen_le l; omega
theorem rulesLen_take {l : List Nd} {j : Nat} {a : Nd} (h : l[j]? = some a) : nfaRulesLen (l.take j) + 1 + a.count ≤ ncounts l + l.length := by
  induction l generalizing j with
  | nil => simp at h
  | cons x l ih =>
    cases j with
    | zero => simp at h; subst h; simp only [List.take_zero, nfaRulesLen, ncounts, List.length_cons]; omega
    | succ j => simp only [List.take_succ_cons, nfaRulesLen, ncounts, List.length_cons]; have := ih (j := j) (by simpa using h); have := nfaLen_le x; omega
theorem bareN_kind {n : Nd} (h : bareN n = true) : n.kind = 1 ∨ n.kind = 2 ∨ n.kind = 3 ∨ n.kind = 4 ∨ (n.kind = 5 ∧ n.subs.length = 1) := by
  unfold bareN at h
  by_cases h1 : n.kind = 1
  · exact .inl h1
  by_cases h2 : n.kind = 2
  · exact .inr (.inl h2)
  by_cases h3 : n.kind = 3
  · exact .inr (.inr (.inl h3))
  by_cases h4 : n.kind = 4
  · exact .inr (.inr (.inr (.inl h4)))
  rw [if_neg h1, if_neg h2, if_neg (by omega)] at h
  by_cases h5 : n.kind = 5
  · rw [if_pos h5] at h
    simp only [Bool.and_eq_true, beq_iff_eq] at h
    exact .inr (.inr (.inr (.inr ⟨h5, h.2⟩)))
  · rw [if_neg h5] at h; cases h
mutual
theorem okN_plain : ∀ n : Nd, isPlain n = true → okN n = true
  | .mk k s mn mx l, h => by
    unfold isPlain at h
    rw [Bool.and_eq_true] at h
    have h2 := okNs_plain l h.2
    unfold okN
    rw [h2, Bool.and_true]
    have h1 := h.1
    rcases bareN_kind h1 with hk | hk | hk | hk | ⟨hk, hl⟩
    all_goals simp only [Nd.kind, Nd.subs] at hk
    · simp [hk]
    · simp [hk]
    · simp [hk]
    · simp [hk]
    · simp only [Nd.subs] at hl; simp [hk, hl]
theorem okNs_plain : ∀ l : List Nd, allPlain l = true → okNs l = true
  | [], _ => rfl
  | a :: l, h => by
    unfold allPlain at h
    rw [Bool.and_eq_true] at h
    unfold okNs
    rw [okN_plain a h.1, okNs_plain l h.2]; rfl
end
/-- An automaton in memory. -/
def AutoIn (w : World) (S : Nat → Prop) (a : Nat) (L : List NS) (rules : Nat) : Prop :=
  S a ∧ ∃ v, Blk w a 77 #[v, .int .i64 rules] ∧ Rep w S v (.sl 54 L.length (encSs L))
/-- Given back. -/
def giveO : Option Mtr → Nat → Option Mtr
  | none, _ => none
  | some m, n => some (m.give n).2
/-- What a build of plain rules comes to. -/
def Built (w w' : World) (gm : Nat) (mo : Option Addr) (n : Nat) (r : Bst × List Nat) (e : Ending) : Prop :=
  Fr (At gm) w w' ∧
  if r.1.e = 0 then (∃ a, e = .returned (.tuple #[.pointer (some ⟨a, 0, none⟩), .int .i64 0]) ∧ AutoIn w' (fun k => w.heap.size ≤ k) a (r.1.st.set 0 (over r.2)) n) ∧ MeO w' gm mo r.1.m
  else e = .returned (.tuple #[.pointer none, .int .i64 r.1.e]) ∧ MeO w' gm mo (giveO r.1.m r.1.st.length)
theorem row_rep {w : World} {B : Nat} {S : Nat → Prop} {v : Value} {xs : List Value} {L : List NS} (h : w.ownsRow B 54 7 v L.length xs) (hr : Reps w S xs (encSs L)) (hs : ∀ k, v.ownBlock = some k → S k) : Rep w S v (.sl 54 L.length (encSs L)) := by
  obtain ⟨h1, h2⟩ := h
  rcases h2 with ⟨rfl, h0⟩ | ⟨g, cap, cur, rfl, hg, hh, hn, hc, hsz, ht⟩
  · have : L = [] := List.eq_nil_of_length_eq_zero h0
    subst this
    exact .nil0 (Nat.zero_le _)
  · refine .row hn hc (hs g rfl) hh ?_ hr
    rw [List.drop_zero, encSs_len, Nat.mul_comm]; exact ht
section
variable {B : Nat} {w : World} {S : Nat → Prop} {e : TypeId} {size : Nat} {v : Value} {n : Nat} {ds : List D}
variable {P : Program} {o : Oper} {a : Act} {Q : Exit → Act → World → Prop}
theorem wp_append_D {K : Act → World → Prop} (s x : Operand) (t : TypeId) (ho : o.op = .call { callee := .builtin .append, args := #[s, x], argTypes := #[t, t] })
    (z : Value) (bytes : Nat) (ht : P.underlying t = some (.slice e)) (hi : (P.info? e).map (fun i => (i.zero, i.size, i.bytes)) = some (some z, size, bytes))
    (hzs : z.cells.size = size) (hsz : 0 < size) (hs : a.eval s = v) (hown : Own w B S e size v n ds)
    {ad : Addr} {m c : Nat} {news : List Value} {es : List D} (hx : a.eval x = .slice (some ad) m c) (hl : news.length = m * size) (hnews : ∀ j u, news[j]? = some u → w.cell? (ad.add j) = some u)
    (hr : Reps w (fun k => S k ∧ some k ≠ v.ownBlock) news es) (hb : (n + m) * bytes ≤ 140737488355328) (h63 : n + m ≤ 140737488355328) (hbase : B ≤ w.heap.size)
    (h : ∀ v' w', Own w' B S e size v' (n + m) (ds ++ es) → w.grownBy w' v.ownBlock → (v'.ownBlock = v.ownBlock ∨ v'.ownBlock = some w.heap.size) → K (a.put o.dst v') w') : o.wp P a w K Q := by
  obtain ⟨v', w', hrun, h2, h3, h4⟩ := run_append_D (P := P) t o.type z bytes ht hi hzs hsz hown (c := c) hl hnews hr hb h63 hbase
  unfold Oper.wp execOp
  simp only [ho, resolve, invoke, builtin, Sem.run_bind, Sem.run_pure, Result.andThen_ok, List.map_toArray, List.map_cons, List.map_nil, hs, hx, hrun]
  exact h v' w' h2 h3 h4
end
/-- A row of one number is built. -/
theorem wp_oneInt {o : Oper} {a : Act} {K : Act → World → Prop} {Q : Exit → Act → World → Prop} {w : World} (k : Nat) (ho : o.op = .buildSlice 42 1 #[(0, .tmp k)]) {x : Int} (hx : a.eval (.tmp k) = .int .i64 x)
    (h : K (a.put o.dst (.slice (some ⟨w.heap.size, 0, none⟩) 1 1)) (w.alloc (.cells #[.int .i64 x] 3))) : o.wp Try.prog a w K Q := by
  have hx' : a.tmps[k]?.getD undef = .int .i64 x := by simpa [Act.eval] using hx
  unfold Oper.wp
  simp only [execOp, ho]
  go_simp
  cases hq : o.dst <;> (rw [hq] at h; exact h)
end
section
open Go Go.RowKit

set_option maxRecDepth 100000 in
set_option maxHeartbeats 4000000 in
theorem build_arg (mv : Value) (l : List Nd) (A : Option Addr) (cap : Nat) (S : Nat → Prop) (w : World) (hl : NodesIn w S (.slice A l.length cap) l) (hno : ¬ (1 ≤ l.length ∧ l.length ≤ 8 ∧ allPlain l = true)) :
    Calls Try.prog 11 #[mv, .slice A l.length cap] w fun r w' => r = .returned (.tuple #[.pointer none, .int .i64 1]) ∧ Fr No w w' := by
  have hcon := contains_n l A cap S w hl (hid fun n v w _ hn => build1_c S n v w hn)
  by_cases h1 : l.length < 1
  · have hd : decide (l.length < 1) = true := decide_eq_true h1
    have hd' : decide ((l.length : Int) < 1) = true := decide_eq_true (by omega)
    go_enter Try.func11, Try.ntmps11
    go_wp2_with fail
    go_ret2
    exact ⟨rfl, Fr.refl No w⟩
  · have hd : decide (l.length < 1) = false := decide_eq_false h1
    have hd' : decide ((l.length : Int) < 1) = false := decide_eq_false (by omega)
    by_cases h8 : 8 < l.length
    · have he : decide (8 < l.length) = true := decide_eq_true h8
      have he' : decide ((8 : Int) < l.length) = true := decide_eq_true (by omega)
      go_enter Try.func11, Try.ntmps11
      go_wp2_with fail
      go_ret2
      exact ⟨rfl, Fr.refl No w⟩
    · have he : decide (8 < l.length) = false := decide_eq_false h8
      have he' : decide ((8 : Int) < l.length) = false := decide_eq_false (by omega)
      have hap : allPlain l = false := by
        cases h : allPlain l with
        | false => rfl
        | true => exact absurd ⟨by omega, by omega, h⟩ hno
      rw [hap] at hcon
      go_enter Try.func11, Try.ntmps11
      go_wp2_with (go_at_call 34; refine hcon.mono ?_; rintro e w2 ⟨rfl, hf2⟩)
      go_ret2
      exact ⟨rfl, hf2⟩
end
end Go.Proofs.Ytldmdlkjpdfonaa
