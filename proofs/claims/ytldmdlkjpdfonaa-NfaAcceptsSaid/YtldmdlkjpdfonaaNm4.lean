/- The builder of an automaton in memory: its states as data, its block, what a call of it may turn. No condition. The walk of the builder's add. Condition: there are fewer than 2^32 states. The walks of the builder: over, class. The walks of the builder: class. -/
import Derived.Test.YtldmdlkjpdfonaaM1
import Derived.Test.YtldmdlkjpdfonaaNode
import Derived.Laws.OwnMore
import Derived.Deep.AppendLies
namespace Go.Proofs.Ytldmdlkjpdfonaa
set_option linter.unusedVariables false
set_option linter.unusedSimpArgs false
section
open Go Go.RowKit

/-- Numbers as data. -/
def encI (l : List Nat) : List D := l.map fun i : Nat => .v (.int .i64 (i : Int))
theorem encI_len (l : List Nat) : (encI l).length = l.length := by simp [encI]
/-- A state's seven cells. -/
def encS (x : NS) : List D := [.v (.int .u64 (wd x.set 0)), .v (.int .u64 (wd x.set 1)), .v (.int .u64 (wd x.set 2)), .v (.int .u64 (wd x.set 3)), .v (.int .i64 x.to), .v (.int .i64 x.acc), .sl 3 x.eps.length (encI x.eps)]
def encSs : List NS → List D
  | [] => []
  | x :: l => encS x ++ encSs l
theorem encS_len (x : NS) : (encS x).length = 7 := rfl
theorem encSs_len : ∀ l : List NS, (encSs l).length = 7 * l.length
  | [] => rfl
  | x :: l => by simp only [encSs, List.length_append, encS_len, encSs_len l, List.length_cons]; omega
theorem encSs_append : ∀ l m : List NS, encSs (l ++ m) = encSs l ++ encSs m
  | [], m => rfl
  | x :: l, m => by simp [encSs, encSs_append l m]
theorem encSs_one (x : NS) : encSs [x] = encS x := by simp [encSs]
theorem encSs_at : ∀ (l : List NS) (i : Nat) (x : NS), l[i]? = some x → ((encSs l).drop (7 * i)).take 7 = encS x
  | [], i, x, h => by simp at h
  | y :: l, 0, x, h => by
    simp at h; subst h
    simp only [encSs, Nat.mul_zero, List.drop_zero]
    rw [← encS_len y, List.take_left]
  | y :: l, i + 1, x, h => by
    have := encSs_at l i x (by simpa using h)
    simp only [encSs]
    rw [show 7 * (i + 1) = (encS y).length + 7 * i by rw [encS_len]; omega, List.drop_append, List.drop_eq_nil_of_le (by omega), Nat.add_sub_cancel_left]
    simpa using this
/-- The cells of a state whose Eps lie at A. -/
def stA (x : NS) (A : Option Addr) (cap : Nat) : Array Value :=
  #[.int .u64 (wd x.set 0), .int .u64 (wd x.set 1), .int .u64 (wd x.set 2), .int .u64 (wd x.set 3), .int .i64 x.to, .int .i64 x.acc, .slice A x.eps.length cap]
theorem stA_one (x : NS) (A : Option Addr) (cap : Nat) : (stA x A cap).all (·.oneCell') = true := by simp [stA, Value.oneCell']
theorem stA_reps {w : World} {S : Nat → Prop} {x : NS} {A : Option Addr} {cap : Nat} (h : Rep w S (.slice A x.eps.length cap) (.sl 3 x.eps.length (encI x.eps))) : Reps w S (stA x A cap).toList (encS x) :=
  .cons (.v rfl) (.cons (.v rfl) (.cons (.v rfl) (.cons (.v rfl) (.cons (.v rfl) (.cons (.v rfl) (.cons h .nil))))))
theorem stA_of {w : World} {S : Nat → Prop} {x : NS} {cs : List Value} (h : Reps w S cs (encS x)) : ∃ A cap, cs = (stA x A cap).toList ∧ Rep w S (.slice A x.eps.length cap) (.sl 3 x.eps.length (encI x.eps)) := by
  simp only [encS] at h
  cases h with | cons h0 h => cases h with | cons h1 h => cases h with | cons h2 h => cases h with | cons h3 h => cases h with | cons h4 h => cases h with | cons h5 h => cases h with | cons h6 h =>
  cases h
  have e := h6.sl_inv
  obtain ⟨A, cap, rfl, _, _⟩ := e
  refine ⟨A, cap, ?_, h6⟩
  rw [h0.v_inv, h1.v_inv, h2.v_inv, h3.v_inv, h4.v_inv, h5.v_inv]
  rfl
theorem infoState : (Try.prog.info? 54).map (·.size) = some 7 := by kernel_rfl
theorem infoState3 : (Try.prog.info? 54).map (fun i => (i.zero, i.size, i.bytes)) = some (some (.agg #[.int .u64 0, .int .u64 0, .int .u64 0, .int .u64 0, .int .i64 0, .int .i64 0, .slice none 0 0]), 7, 72) := by kernel_rfl
/-- A state by value. -/
def StIn (w : World) (S : Nat → Prop) (v : Value) (x : NS) : Prop := ∃ A cap, v = .agg (stA x A cap) ∧ Rep w S (.slice A x.eps.length cap) (.sl 3 x.eps.length (encI x.eps))

/-- The meter of a builder. -/
def MeO (w : World) (gm : Nat) (mo : Option Addr) : Option Mtr → Prop
  | none => mo = none
  | some m => mo = some ⟨gm, 0, none⟩ ∧ Me w gm m
/-- What a call of the builder may turn of what was there. -/
def Mv (bb gm : Nat) (v : Value) : Nat → Prop := fun k => k = bb ∨ k = gm ∨ v.ownBlock = some k
structure Bd (w : World) (B bb gm : Nat) (b : Bst) (xs : List Value) (v : Value) : Prop where
  blk : ∃ mo, Blk w bb 71 #[.pointer mo, v, .int .i64 b.e] ∧ MeO w gm mo b.m
  row : w.ownsRow B 54 7 v b.st.length xs
  fits : Fits b.m
  apart : v.ownBlock ≠ some bb ∧ v.ownBlock ≠ some gm
  lt : bb < w.heap.size ∧ gm < w.heap.size
section
variable {w w' : World} {B bb gm : Nat} {b b' : Bst} {xs : List Value} {v : Value} {M : Nat → Prop}
theorem MeO.fr {mo : Option Addr} : ∀ {m : Option Mtr}, MeO w gm mo m → Fr M w w' → ¬ M gm → MeO w' gm mo m
  | none, h, _, _ => h
  | some _, h, hf, hn => ⟨h.1, h.2.fr hf hn⟩
theorem own_fr {B : Nat} {e : TypeId} {size n : Nat} (h : w.ownsRow B e size v n xs) (hf : Fr M w w') (hn : ∀ k, v.ownBlock = some k → ¬ M k) : w'.ownsRow B e size v n xs := by
  obtain ⟨h1, h2⟩ := h
  refine ⟨h1, ?_⟩
  rcases h2 with h2 | ⟨g, cap, cur, rfl, hg, hh, r⟩
  · exact .inl h2
  · exact .inr ⟨g, cap, cur, rfl, hg, (hf.block g (lt_of_heap hh) (hn g rfl)).trans hh, r⟩
theorem Bd.fr (h : Bd w B bb gm b xs v) (hf : Fr M w w') (h1 : ¬ M bb) (h2 : ¬ M gm) (h3 : ∀ k, v.ownBlock = some k → ¬ M k) : Bd w' B bb gm b xs v := by
  obtain ⟨⟨mo, hb, hm⟩, hr, hf1, ha, hl⟩ := h
  exact ⟨⟨mo, hf.blk hb h1, hm.fr hf h2⟩, own_fr hr hf h3, hf1, ha, by have := hf.size; omega⟩
theorem Bd.no (h : Bd w B bb gm b xs v) (hf : Fr No w w') : Bd w' B bb gm b xs v := h.fr hf id id fun _ _ => id
theorem Bd.own_lt (h : Bd w B bb gm b xs v) : ∀ k, v.ownBlock = some k → k < w.heap.size := fun k hk => (h.row.lt k hk).2
/-- What a call of the builder comes to: states were added. -/
def Aft (w w' : World) (lo B bb gm : Nat) (b b' : Bst) (xs : List Value) (v : Value) : Prop :=
  ∃ v' ys nw, Bd w' B bb gm b' (xs ++ ys) v' ∧ b'.st = b.st ++ nw ∧ Reps w' (fun k => lo ≤ k ∧ v'.ownBlock ≠ some k) ys (encSs nw) ∧ Fr (Mv bb gm v) w w' ∧ (∀ k, v'.ownBlock = some k → v.ownBlock = some k ∨ w.heap.size ≤ k)
theorem Aft.refl (h : Bd w B bb gm b xs v) (lo : Nat) : Aft w w lo B bb gm b b xs v :=
  ⟨v, [], [], by rw [List.append_nil]; exact h, by simp, .nil, Fr.refl _ _, fun k hk => .inl hk⟩
theorem Mv.step {v1 : Value} {a : World} (h : ∀ k, v1.ownBlock = some k → v.ownBlock = some k ∨ a.heap.size ≤ k) : ∀ k, k < a.heap.size → Mv bb gm v1 k → Mv bb gm v k := by
  rintro k hk (h1 | h1 | h1)
  · exact .inl h1
  · exact .inr (.inl h1)
  · rcases h k h1 with h2 | h2
    · exact .inr (.inr h2)
    · omega
theorem Aft.trans {w1 : World} {lo : Nat} {b1 : Bst} (h : Aft w w1 lo B bb gm b b1 xs v) (hlo : bb < lo ∧ gm < lo)
    (h' : ∀ v1 xs1, Bd w1 B bb gm b1 xs1 v1 → Aft w1 w' lo B bb gm b1 b' xs1 v1) : Aft w w' lo B bb gm b b' xs v := by
  obtain ⟨v1, ys, nw, hb1, hs1, hr1, hf1, ho1⟩ := h
  obtain ⟨v2, ys2, nw2, hb2, hs2, hr2, hf2, ho2⟩ := h' v1 _ hb1
  refine ⟨v2, ys ++ ys2, nw ++ nw2, by rw [← List.append_assoc]; exact hb2, by rw [hs2, hs1, List.append_assoc], ?_, hf1.call hf2 (Mv.step ho1), fun k hk => ?_⟩
  · rw [encSs_append]
    refine (hr1.fr hf2 fun k hk hl => ⟨?_, hk.1, fun hc => ?_⟩).append hr2
    · rintro (h1 | h1 | h1)
      · omega
      · omega
      · exact hk.2 h1
    · rcases ho2 k hc with h1 | h1
      · exact hk.2 h1
      · omega
  · rcases ho2 k hk with h1 | h1
    · exact ho1 k h1
    · exact .inr (Nat.le_trans hf1.size h1)
/-- Ahead of it something was made. -/
theorem Aft.ahead {w1 : World} {lo : Nat} (hf : Fr No w w1) (h : Aft w1 w' lo B bb gm b b' xs v) (hb : Bd w B bb gm b xs v) : Aft w w' lo B bb gm b b' xs v := by
  obtain ⟨v1, ys, nw, hb1, hs1, hr1, hf1, ho1⟩ := h
  refine ⟨v1, ys, nw, hb1, hs1, hr1, (hf.mono fun _ _ h => h.elim).trans hf1, fun k hk => ?_⟩
  rcases ho1 k hk with h1 | h1
  · exact .inl h1
  · exact .inr (Nat.le_trans hf.size h1)
/-- Behind it something was made. -/
theorem Aft.behind {w1 : World} {lo : Nat} (h : Aft w w1 lo B bb gm b b' xs v) (hf : Fr No w1 w') : Aft w w' lo B bb gm b b' xs v := by
  obtain ⟨v1, ys, nw, hb1, hs1, hr1, hf1, ho1⟩ := h
  exact ⟨v1, ys, nw, hb1.no hf, hs1, hr1.fr hf fun k hk _ => ⟨id, hk⟩, hf1.no hf, ho1⟩
end
end
section
open Go Go.RowKit

/-- What add comes to, told exactly. -/
def Added (w w' : World) (B bb gm : Nat) (b : Bst) (x : NS) (cs xs : List Value) (v : Value) : Prop :=
  ∃ v' ys, Bd w' B bb gm (b.add x).1 (xs ++ ys) v' ∧ ((b.add x).1.st = b.st ∧ ys = [] ∧ (b.add x).1.e ≠ 0 ∨ (b.add x).1.st = b.st ++ [x] ∧ ys = cs ∧ (b.add x).1.e = 0) ∧ Fr (Mv bb gm v) w w' ∧ (∀ k, v'.ownBlock = some k → v.ownBlock = some k ∨ w.heap.size ≤ k)
/-- A row of one state is built. -/
theorem wp_oneState {o : Oper} {a : Act} {K : Act → World → Prop} {Q : Exit → Act → World → Prop} {w : World} (k : Nat) (ho : o.op = .buildSlice 69 1 #[(0, .tmp k)]) {x : NS} {A : Option Addr} {cap : Nat} (hx : a.eval (.tmp k) = .agg (stA x A cap))
    (h : K (a.put o.dst (.slice (some ⟨w.heap.size, 0, none⟩) 1 1)) (w.alloc (.cells (stA x A cap) 54))) : o.wp Try.prog a w K Q := by
  have hx' : a.tmps[k]?.getD undef = .agg (stA x A cap) := by simpa [Act.eval] using hx
  unfold Oper.wp
  unfold stA at *
  simp only [execOp, ho]
  go_simp
  cases hq : o.dst <;> (rw [hq] at h; exact h)
theorem stA_all (x : NS) (A : Option Addr) (cap : Nat) : ∀ u ∈ (stA x A cap).toList, u.oneCell' = true := by
  intro u hu
  simp only [stA, List.mem_cons, List.not_mem_nil, or_false] at hu
  rcases hu with rfl | rfl | rfl | rfl | rfl | rfl | rfl <;> rfl
theorem Mtr.take_fits {m : Mtr} (h : m.fits) (n : Int) (hn : 0 ≤ n) : (m.take n).2.fits := by
  obtain ⟨t1, t2, t3, t4, t5, t6⟩ := h
  unfold Mtr.take
  rw [if_neg (by omega)]
  split
  · exact ⟨t1, t2, t3, t4, t5, t6⟩
  · refine ⟨?_, ?_, t3, t4, t5, t6⟩
    all_goals simp only []; omega
theorem Mtr.step_fits {m : Mtr} (h : m.fits) (n : Int) (hn : 0 ≤ n) : (m.step n).2.fits := by
  obtain ⟨t1, t2, t3, t4, t5, t6⟩ := h
  unfold Mtr.step
  rw [if_neg (by omega)]
  split
  · exact ⟨t1, t2, t3, t4, t5, t6⟩
  · refine ⟨t1, t2, t3, ?_, ?_, t6⟩
    all_goals simp only []; omega
theorem Mtr.give_fits {m : Mtr} (h : m.fits) (n : Int) (hn : 0 ≤ n) : (m.give n).2.fits := by
  obtain ⟨t1, t2, t3, t4, t5, t6⟩ := h
  unfold Mtr.give
  split
  · exact ⟨t1, t2, t3, t4, t5, t6⟩
  · refine ⟨?_, ?_, t3, t4, t5, t6⟩
    all_goals simp only []; omega
section
variable (w : World) (B bb gm : Nat) (b : Bst) (x : NS) (xs : List Value) (v : Value) (A : Option Addr) (cap : Nat)
set_option maxRecDepth 100000 in
set_option maxHeartbeats 1600000 in
theorem add_dead (h : Bd w B bb gm b xs v) (he : b.e ≠ 0) : Calls Try.prog 37 #[.pointer (some ⟨bb, 0, none⟩), .agg (stA x A cap)] w fun r w' => r = .returned (.int .i64 (b.add x).2) ∧ Added w w' B bb gm b x (stA x A cap).toList xs v := by
  have hd := Bst.add_dead b x he
  obtain ⟨mo, hb, hm⟩ := h.blk
  have hF : Fr No w _ := (Fr.refl No w).alloc (.cells (stA x A cap) 54)
  have hb1 := hb.alloc (.cells (stA x A cap) 54)
  have h2 := hb1.cell 2
  have ht : (b.e == 0) = false := by simpa using he
  generalize hcs : stA x A cap = cs at *
  clear hcs hb hm
  go_enter Try.func37, Try.ntmps37
  go_wp2
  go_ret
  refine ⟨by rw [hd]; rfl, v, [], ?_, .inl ⟨by rw [hd], rfl, by rw [hd]; exact he⟩, hF.mono (fun _ _ h => h.elim), fun k hk => .inl hk⟩
  rw [hd, List.append_nil]; exact h.no hF
set_option maxRecDepth 100000 in
set_option maxHeartbeats 4000000 in
theorem add_none (h : Bd w B bb gm b xs v) (he : b.e = 0) (hm : b.m = none) (hl : b.st.length < 4294967296) (hB : B ≤ w.heap.size) :
    Calls Try.prog 37 #[.pointer (some ⟨bb, 0, none⟩), .agg (stA x A cap)] w fun r w' => r = .returned (.int .i64 (b.add x).2) ∧ Added w w' B bb gm b x (stA x A cap).toList xs v := by
  obtain ⟨m0, st, e0⟩ := b
  simp only [] at he hm hl
  subst he hm
  have hd : Bst.add ⟨none, st, 0⟩ x = (⟨none, st ++ [x], 0⟩, st.length) := by unfold Bst.add; rw [if_pos rfl]
  obtain ⟨⟨mo, hb, hmo⟩, hrow, hfit, hap, hlt⟩ := h
  obtain rfl : mo = none := hmo
  simp only [] at hb hrow
  have hF : Fr No w _ := (Fr.refl No w).alloc (.cells (stA x A cap) 54)
  have hb1 := hb.alloc (.cells (stA x A cap) 54)
  have hX := Blk.new w 54 (stA x A cap)
  have hrow1 := hrow.alloc (.cells (stA x A cap) 54)
  have h0 := hb1.cell 0
  have h2 := hb1.cell 2
  go_enter Try.func37, Try.ntmps37
  go_wp2
  refine wp_world (fun W => Blk W bb 71 #[.pointer none, v, .int .i64 0] ∧ Blk W w.heap.size 54 (stA x A cap) ∧ W.ownsRow B 54 7 v st.length xs ∧ MeO W gm none none ∧ Fr (Mv bb gm v) w W) ⟨hb1, hX, hrow1, rfl, hF.mono fun _ _ h => h.elim⟩ ?_
  rintro W ⟨hbW, hXW, hrowW, hmW, hFW⟩
  clear hb1 hX hrow1 hF h0 h2 hb
  refine wp_region_tail 8 (fun W' => W'.cell? ⟨bb, 1, none⟩ = some v ∧ W'.rangeAt w.heap.size 0 (stA x A cap).toList) (by kernel_rfl) (by kernel_rfl) ?_
  simp only [List.take_succ_cons, List.take_zero, List.drop_succ_cons, List.drop_zero]
  have hS : (fun W' : World => W'.cell? ⟨bb, 1, none⟩ = some v ∧ W'.rangeAt w.heap.size 0 (stA x A cap).toList) W.drew := ⟨hbW.cell 1, hXW.range⟩
  refine Rt.take (i := 0) (v := (.pointer (some ⟨bb, 0, none⟩))) rfl (by kernel_rfl) (fun _ _ _ h => h) (.inl ⟨rfl, fun w hSw => by (try dsimp only at hSw); go_simp⟩) (by assumption) ?_
  try simp only [Act.put, List.getElem_toArray, List.getElem_cons_succ, List.getElem_cons_zero, List.setIfInBounds_toArray, List.set_cons_zero, List.set_cons_succ]
  refine Rt.take (i := 1) (v := (.pointer (some ⟨bb, 0, none⟩))) rfl (by kernel_rfl) (fun _ _ _ h => h) (.inl ⟨rfl, fun w hSw => by (try dsimp only at hSw); go_simp⟩) (by assumption) ?_
  try simp only [Act.put, List.getElem_toArray, List.getElem_cons_succ, List.getElem_cons_zero, List.setIfInBounds_toArray, List.set_cons_zero, List.set_cons_succ]
  refine Rt.take (i := 2) (v := (.pointer (some ⟨bb, 0, none⟩))) rfl (by kernel_rfl) (fun _ _ _ h => h) (.inl ⟨rfl, fun w hSw => by (try dsimp only at hSw); go_simp⟩) (by assumption) ?_
  try simp only [Act.put, List.getElem_toArray, List.getElem_cons_succ, List.getElem_cons_zero, List.setIfInBounds_toArray, List.set_cons_zero, List.set_cons_succ]
  refine Rt.take (i := 3) (v := (.pointer (some ⟨bb, 1, none⟩))) rfl (by kernel_rfl) (fun _ _ _ h => h) (.inl ⟨rfl, fun w hSw => by (try dsimp only at hSw); go_simp⟩) (by assumption) ?_
  try simp only [Act.put, List.getElem_toArray, List.getElem_cons_succ, List.getElem_cons_zero, List.setIfInBounds_toArray, List.set_cons_zero, List.set_cons_succ]
  refine Rt.take (i := 4) (v := v) rfl (by kernel_rfl) (fun _ _ _ h => h) (.inl ⟨rfl, fun w hSw => by (try dsimp only at hSw); go_simp⟩) (by assumption) ?_
  try simp only [Act.put, List.getElem_toArray, List.getElem_cons_succ, List.getElem_cons_zero, List.setIfInBounds_toArray, List.set_cons_zero, List.set_cons_succ]
  refine Rt.take (i := 5) rfl (by kernel_rfl) (fun _ _ _ h => h) (YieldsIf.load rfl rfl rfl (fun W hW => hW.2) Try.underlying54 rfl infoState) (by assumption) ?_
  try simp only [Act.put, List.getElem_toArray, List.getElem_cons_succ, List.getElem_cons_zero, List.setIfInBounds_toArray, List.set_cons_zero, List.set_cons_succ]
  refine Rt.one (i := 6) rfl (by kernel_rfl) (fun K hK => ?_)
  rw [if_pos (by kernel_rfl)]
  refine wp_oneState 43 rfl rfl ?_
  have hbA := hbW.drew.alloc (.cells (stA x A cap) 54)
  have hXA := hXW.drew.alloc (.cells (stA x A cap) 54)
  have hNA := Blk.new W.drew 54 (stA x A cap)
  have hrA := hrowW.drew.alloc (.cells (stA x A cap) 54)
  have hFA := (hFW.drew).alloc (.cells (stA x A cap) 54)
  refine hK.out _ _ ⟨hbA.cell 1, hXA.range⟩ (Rt.one (i := 7) rfl (by kernel_rfl) (fun K2 hK2 => ?_))
  clear hK K hS
  rw [if_pos (by kernel_rfl)]
  obtain ⟨ti, t1, t2, t3, t4⟩ := info_parts infoState3
  refine wp_append_lies _ (.tmp 42) (.tmp 44) 69 rfl B 54 ti _ 7 72 Try.underlying69 t1 t2 t3 t4 rfl (by decide) v st.length xs rfl hrA ⟨W.drew.heap.size, 0, none⟩ 1 1 (stA x A cap).toList rfl rfl hNA.news (stA_all x A cap) (by decide) (by simp only [maxLen]; omega) (by omega) (by have := hFA.size; omega) _ rfl ?_
  intro g cap' w1 hown hgrow hat hltg
  have hF1 := Fr.ofGrown hgrow
  have hge : w.heap.size ≤ W.heap.size := hFW.size
  have hsz : (W.drew.alloc (.cells (stA x A cap) 54)).heap.size = W.heap.size + 1 := World.size_alloc _ _
  rw [hsz] at hat
  have hb1 := hF1.blk hbA (fun h => hap.1 h.symm)
  have hX1 := hF1.blk hXA (fun h => by have := hrow.lt _ h.symm; omega)
  have hF2 : Fr (Mv bb gm v) w w1 := hFA.call hF1 fun k _ h => .inr (.inr h.symm)
  refine hK2.out _ _ ⟨hb1.cell 1, hX1.range⟩ (Rt.done (by kernel_rfl) ?_)
  clear hK2 K2 hNA hXA hbA hFA hrA hXW hbW hrowW hgrow hF1 t1 t2 t3 t4 ti hX1
  have hgb : g ≠ bb := by rcases hat with h | h; (intro e; subst e; exact hap.1 h); omega
  have hgm : g ≠ gm := by rcases hat with h | h; (intro e; subst e; exact hap.2 h); omega
  have c1 := hb1.cell 1
  have f1 := hb1.frozen 1
  have hlw : wrap64 ((st.length + 1 : Nat) - 1 : Int) = st.length := by unfold wrap64; omega
  go_wp2
  go_ret
  unfold Added
  rw [hd]
  refine ⟨rfl, _, _, ⟨⟨none, hb1.set_ 1 _, rfl⟩, ?_, trivial, ⟨?_, ?_⟩, ?_⟩, .inr ⟨rfl, rfl, rfl⟩, hF2.set (.inr (.inl rfl)) _, fun k hk => ?_⟩
  · rw [List.length_append]
    exact ownsRow_setCell_other hown (fun h => hgb (by injection h)) _
  · exact fun h => hgb (Option.some.inj h)
  · exact fun h => hgm (Option.some.inj h)
  · have := (hF2.set (.inr (.inl rfl)) (p := ⟨bb, 1, none⟩) (.slice (some ⟨g, 0, none⟩) (st.length + 1) cap')).size
    omega
  · obtain rfl : g = k := Option.some.inj hk
    rcases hat with h | h
    · exact .inl h
    · exact .inr (by omega)
set_option maxRecDepth 100000 in
set_option maxHeartbeats 4000000 in
theorem add_mem (m : Mtr) (h : Bd w B bb gm b xs v) (he : b.e = 0) (hm : b.m = some m) (hl : b.st.length < 4294967296) (hB : B ≤ w.heap.size) (ht : (m.take 1).1 = false) :
    Calls Try.prog 37 #[.pointer (some ⟨bb, 0, none⟩), .agg (stA x A cap)] w fun r w' => r = .returned (.int .i64 (b.add x).2) ∧ Added w w' B bb gm b x (stA x A cap).toList xs v := by
  obtain ⟨m0, st, e0⟩ := b
  simp only [] at he hm hl
  subst he hm
  have hd : Bst.add ⟨some m, st, 0⟩ x = (⟨some (m.take 1).2, st, 3⟩, 0) := by unfold Bst.add; rw [if_pos rfl]; simp only []; rw [if_neg (by rw [ht]; decide)]
  obtain ⟨⟨mo, hb, hmo⟩, hrow, hfit, hap, hlt⟩ := h
  obtain ⟨rfl, hm0⟩ : mo = some ⟨gm, 0, none⟩ ∧ Me w gm m := hmo
  simp only [] at hb hrow
  have hgne : gm ≠ bb := Blk.ne_ hm0 hb (by decide)
  have hF : Fr (Mv bb gm v) w _ := (Fr.refl (Mv bb gm v) w).alloc (.cells (stA x A cap) 54)
  have hb1 := hb.alloc (.cells (stA x A cap) 54)
  have hX := Blk.new w 54 (stA x A cap)
  have hrow1 := hrow.alloc (.cells (stA x A cap) 54)
  have hm1 := hm0.alloc (.cells (stA x A cap) 54)
  have hfit1 : (m.take 1).2.fits := Mtr.take_fits hfit 1 (by omega)
  have hfit2 : ((m.take 1).2.step 1).2.fits := Mtr.step_fits hfit1 1 (by omega)
  have hfit3 : (((m.take 1).2.step 1).2.give 1).2.fits := Mtr.give_fits hfit2 1 (by omega)
  have h0 := hb1.cell 0
  have h2 := hb1.cell 2
  have g2 := hb1.frozen 2
  have hTk := take_c gm m _ 1 hm1 hfit (by omega)
  rw [ht] at hTk
  clear hm0 hb
  go_enter Try.func37, Try.ntmps37
  go_wp2_with (go_at_call 50; refine hTk.mono ?_; rintro e w2 ⟨rfl, hm2, hf2⟩; have hb2 := hf2.blk hb1 (Ne.symm hgne); have h0a := hb2.cell 0; have h2a := hb2.cell 2; have g2a := hb2.frozen 2)
  go_ret
  unfold Added
  rw [hd]
  have hrow2 := own_fr hrow1 hf2 (fun k hk e => hap.2 (by rw [hk]; exact congrArg some e))
  have hF2 : Fr (Mv bb gm v) w w2 := hF.call hf2 fun k _ e => .inr (.inl e)
  refine ⟨rfl, v, [], ⟨⟨_, hb2.set_ 2 _, rfl, hm2.fr ((Fr.refl (At bb) _).setB 2 _) hgne⟩, ?_, hfit1, hap, ?_⟩, .inl ⟨rfl, rfl, show (3 : Int) ≠ 0 by decide⟩, hF2.set (.inr (.inl rfl)) _, fun k hk => .inl hk⟩
  · rw [List.append_nil]
    exact ownsRow_setCell_other hrow2 (fun h => hap.1 h) _
  · have := (hF2.set (.inr (.inl rfl)) (p := ⟨bb, 2, none⟩) (.int .i64 3)).size
    omega
set_option maxRecDepth 100000 in
set_option maxHeartbeats 4000000 in
theorem add_steps (m : Mtr) (h : Bd w B bb gm b xs v) (he : b.e = 0) (hm : b.m = some m) (hl : b.st.length < 4294967296) (hB : B ≤ w.heap.size) (ht : (m.take 1).1 = true) (hs : ((m.take 1).2.step 1).1 = false) :
    Calls Try.prog 37 #[.pointer (some ⟨bb, 0, none⟩), .agg (stA x A cap)] w fun r w' => r = .returned (.int .i64 (b.add x).2) ∧ Added w w' B bb gm b x (stA x A cap).toList xs v := by
  obtain ⟨m0, st, e0⟩ := b
  simp only [] at he hm hl
  subst he hm
  have hd : Bst.add ⟨some m, st, 0⟩ x = (⟨some (((m.take 1).2.step 1).2.give 1).2, st, 4⟩, 0) := by unfold Bst.add; rw [if_pos rfl]; simp only []; rw [if_pos ht, if_neg (by rw [hs]; decide)]
  obtain ⟨⟨mo, hb, hmo⟩, hrow, hfit, hap, hlt⟩ := h
  obtain ⟨rfl, hm0⟩ : mo = some ⟨gm, 0, none⟩ ∧ Me w gm m := hmo
  simp only [] at hb hrow
  have hgne : gm ≠ bb := Blk.ne_ hm0 hb (by decide)
  have hF : Fr (Mv bb gm v) w _ := (Fr.refl (Mv bb gm v) w).alloc (.cells (stA x A cap) 54)
  have hb1 := hb.alloc (.cells (stA x A cap) 54)
  have hX := Blk.new w 54 (stA x A cap)
  have hrow1 := hrow.alloc (.cells (stA x A cap) 54)
  have hm1 := hm0.alloc (.cells (stA x A cap) 54)
  have hfit1 : (m.take 1).2.fits := Mtr.take_fits hfit 1 (by omega)
  have hfit2 : ((m.take 1).2.step 1).2.fits := Mtr.step_fits hfit1 1 (by omega)
  have hfit3 : (((m.take 1).2.step 1).2.give 1).2.fits := Mtr.give_fits hfit2 1 (by omega)
  have h0 := hb1.cell 0
  have h2 := hb1.cell 2
  have g2 := hb1.frozen 2
  have hTk := take_c gm m _ 1 hm1 hfit (by omega)
  rw [ht] at hTk
  clear hm0 hb
  have hSt := fun W (hW : Me W gm (m.take 1).2) => step_c gm (m.take 1).2 W 1 hW hfit1 (by omega)
  rw [hs] at hSt
  have hGv := fun W (hW : Me W gm ((m.take 1).2.step 1).2) => give_c gm ((m.take 1).2.step 1).2 W 1 hW hfit2 (by omega)
  go_enter Try.func37, Try.ntmps37
  go_wp2_with (first | (go_at_call 50; refine hTk.mono ?_; rintro e w2 ⟨rfl, hm2, hf2⟩; have hb2 := hf2.blk hb1 (Ne.symm hgne); have h0a := hb2.cell 0; have h2a := hb2.cell 2; have g2a := hb2.frozen 2) |
    (go_at_call 51; refine (hSt _ hm2).mono ?_; rintro e w3 ⟨rfl, hm3, hf3⟩; have hb3 := hf3.blk hb2 (Ne.symm hgne); have h0b := hb3.cell 0; have h2b := hb3.cell 2; have g2b := hb3.frozen 2) |
    (go_at_call 40; refine (hGv _ hm3).mono ?_; rintro e w4 ⟨rfl, hm4, hf4⟩; have hb4 := hf4.blk hb3 (Ne.symm hgne); have h0c := hb4.cell 0; have h2c := hb4.cell 2; have g2c := hb4.frozen 2))
  go_ret
  unfold Added
  rw [hd]
  have hrow2 := own_fr hrow1 hf2 (fun k hk e => hap.2 (by rw [hk]; exact congrArg some e))
  have hrow3 := own_fr hrow2 hf3 (fun k hk e => hap.2 (by rw [hk]; exact congrArg some e))
  have hrow4 := own_fr hrow3 hf4 (fun k hk e => hap.2 (by rw [hk]; exact congrArg some e))
  have hF4 : Fr (Mv bb gm v) w w4 := ((hF.call hf2 fun k _ e => .inr (.inl e)).call hf3 fun k _ e => .inr (.inl e)).call hf4 fun k _ e => .inr (.inl e)
  refine ⟨rfl, v, [], ⟨⟨_, hb4.set_ 2 _, rfl, hm4.fr ((Fr.refl (At bb) _).setB 2 _) hgne⟩, ?_, hfit3, hap, ?_⟩, .inl ⟨rfl, rfl, show (4 : Int) ≠ 0 by decide⟩, hF4.set (.inr (.inl rfl)) _, fun k hk => .inl hk⟩
  · rw [List.append_nil]
    exact ownsRow_setCell_other hrow4 (fun h => hap.1 h) _
  · have := (hF4.set (.inr (.inl rfl)) (p := ⟨bb, 2, none⟩) (.int .i64 4)).size
    omega
set_option maxRecDepth 100000 in
set_option maxHeartbeats 4000000 in
theorem add_some (m : Mtr) (h : Bd w B bb gm b xs v) (he : b.e = 0) (hm : b.m = some m) (hl : b.st.length < 4294967296) (hB : B ≤ w.heap.size) (ht : (m.take 1).1 = true) (hs : ((m.take 1).2.step 1).1 = true) :
    Calls Try.prog 37 #[.pointer (some ⟨bb, 0, none⟩), .agg (stA x A cap)] w fun r w' => r = .returned (.int .i64 (b.add x).2) ∧ Added w w' B bb gm b x (stA x A cap).toList xs v := by
  obtain ⟨m0, st, e0⟩ := b
  simp only [] at he hm hl
  subst he hm
  have hd : Bst.add ⟨some m, st, 0⟩ x = (⟨some ((m.take 1).2.step 1).2, st ++ [x], 0⟩, st.length) := by unfold Bst.add; rw [if_pos rfl]; simp only []; rw [if_pos ht, if_pos hs]
  obtain ⟨⟨mo, hb, hmo⟩, hrow, hfit, hap, hlt⟩ := h
  obtain ⟨rfl, hm0⟩ : mo = some ⟨gm, 0, none⟩ ∧ Me w gm m := hmo
  simp only [] at hb hrow
  have hgne : gm ≠ bb := Blk.ne_ hm0 hb (by decide)
  have hF : Fr (Mv bb gm v) w _ := (Fr.refl (Mv bb gm v) w).alloc (.cells (stA x A cap) 54)
  have hb1 := hb.alloc (.cells (stA x A cap) 54)
  have hX := Blk.new w 54 (stA x A cap)
  have hrow1 := hrow.alloc (.cells (stA x A cap) 54)
  have hm1 := hm0.alloc (.cells (stA x A cap) 54)
  have hfit1 : (m.take 1).2.fits := Mtr.take_fits hfit 1 (by omega)
  have hfit2 : ((m.take 1).2.step 1).2.fits := Mtr.step_fits hfit1 1 (by omega)
  have hfit3 : (((m.take 1).2.step 1).2.give 1).2.fits := Mtr.give_fits hfit2 1 (by omega)
  have h0 := hb1.cell 0
  have h2 := hb1.cell 2
  have g2 := hb1.frozen 2
  have hTk := take_c gm m _ 1 hm1 hfit (by omega)
  rw [ht] at hTk
  clear hm0 hb
  have hSt := fun W (hW : Me W gm (m.take 1).2) => step_c gm (m.take 1).2 W 1 hW hfit1 (by omega)
  rw [hs] at hSt
  go_enter Try.func37, Try.ntmps37
  go_wp2_with (first | (go_at_call 50; refine hTk.mono ?_; rintro e w2 ⟨rfl, hm2, hf2⟩; have hb2 := hf2.blk hb1 (Ne.symm hgne); have h0a := hb2.cell 0; have h2a := hb2.cell 2; have g2a := hb2.frozen 2) |
    (go_at_call 51; refine (hSt _ hm2).mono ?_; rintro e w3 ⟨rfl, hm3, hf3⟩; have hb3 := hf3.blk hb2 (Ne.symm hgne); have h0b := hb3.cell 0; have h2b := hb3.cell 2; have g2b := hb3.frozen 2))
  have hX2 := hf2.blk hX (by show ¬ w.heap.size = gm; omega)
  have hX3 := hf3.blk hX2 (by show ¬ w.heap.size = gm; omega)
  have hrow2 := own_fr hrow1 hf2 (fun k hk e => hap.2 (by rw [hk]; exact congrArg some e))
  have hrow3 := own_fr hrow2 hf3 (fun k hk e => hap.2 (by rw [hk]; exact congrArg some e))
  have hF2 : Fr (Mv bb gm v) w w2 := hF.call hf2 fun k _ e => .inr (.inl e)
  have hF3 : Fr (Mv bb gm v) w w3 := hF2.call hf3 fun k _ e => .inr (.inl e)
  clear h0a h2a g2a h0b h2b g2b g2 hfit1 hfit3 hSt hTk
  generalize hmq : ((m.take 1).2.step 1).2 = mq at *
  refine wp_world (fun W => Blk W bb 71 #[.pointer (some ⟨gm, 0, none⟩), v, .int .i64 0] ∧ Blk W w.heap.size 54 (stA x A cap) ∧ W.ownsRow B 54 7 v st.length xs ∧ Me W gm mq ∧ Fr (Mv bb gm v) w W) ⟨hb3, hX3, hrow3, hm3, hF3⟩ ?_
  rintro W ⟨hbW, hXW, hrowW, hmW, hFW⟩
  clear hb1 hX hrow1 hF h0 h2 hb2 hX2 hrow2 hF2 hm2 hb3 hX3 hrow3 hF3 hm3 hf2 hf3
  refine wp_region_tail 8 (fun W' => W'.cell? ⟨bb, 1, none⟩ = some v ∧ W'.rangeAt w.heap.size 0 (stA x A cap).toList) (by kernel_rfl) (by kernel_rfl) ?_
  simp only [List.take_succ_cons, List.take_zero, List.drop_succ_cons, List.drop_zero]
  have hS : (fun W' : World => W'.cell? ⟨bb, 1, none⟩ = some v ∧ W'.rangeAt w.heap.size 0 (stA x A cap).toList) W.drew := ⟨hbW.cell 1, hXW.range⟩
  refine Rt.take (i := 0) (v := (.pointer (some ⟨bb, 0, none⟩))) rfl (by kernel_rfl) (fun _ _ _ h => h) (.inl ⟨rfl, fun w hSw => by (try dsimp only at hSw); go_simp⟩) (by assumption) ?_
  try simp only [Act.put, List.getElem_toArray, List.getElem_cons_succ, List.getElem_cons_zero, List.setIfInBounds_toArray, List.set_cons_zero, List.set_cons_succ]
  refine Rt.take (i := 1) (v := (.pointer (some ⟨bb, 0, none⟩))) rfl (by kernel_rfl) (fun _ _ _ h => h) (.inl ⟨rfl, fun w hSw => by (try dsimp only at hSw); go_simp⟩) (by assumption) ?_
  try simp only [Act.put, List.getElem_toArray, List.getElem_cons_succ, List.getElem_cons_zero, List.setIfInBounds_toArray, List.set_cons_zero, List.set_cons_succ]
  refine Rt.take (i := 2) (v := (.pointer (some ⟨bb, 0, none⟩))) rfl (by kernel_rfl) (fun _ _ _ h => h) (.inl ⟨rfl, fun w hSw => by (try dsimp only at hSw); go_simp⟩) (by assumption) ?_
  try simp only [Act.put, List.getElem_toArray, List.getElem_cons_succ, List.getElem_cons_zero, List.setIfInBounds_toArray, List.set_cons_zero, List.set_cons_succ]
  refine Rt.take (i := 3) (v := (.pointer (some ⟨bb, 1, none⟩))) rfl (by kernel_rfl) (fun _ _ _ h => h) (.inl ⟨rfl, fun w hSw => by (try dsimp only at hSw); go_simp⟩) (by assumption) ?_
  try simp only [Act.put, List.getElem_toArray, List.getElem_cons_succ, List.getElem_cons_zero, List.setIfInBounds_toArray, List.set_cons_zero, List.set_cons_succ]
  refine Rt.take (i := 4) (v := v) rfl (by kernel_rfl) (fun _ _ _ h => h) (.inl ⟨rfl, fun w hSw => by (try dsimp only at hSw); go_simp⟩) (by assumption) ?_
  try simp only [Act.put, List.getElem_toArray, List.getElem_cons_succ, List.getElem_cons_zero, List.setIfInBounds_toArray, List.set_cons_zero, List.set_cons_succ]
  refine Rt.take (i := 5) rfl (by kernel_rfl) (fun _ _ _ h => h) (YieldsIf.load rfl rfl rfl (fun W hW => hW.2) Try.underlying54 rfl infoState) (by assumption) ?_
  try simp only [Act.put, List.getElem_toArray, List.getElem_cons_succ, List.getElem_cons_zero, List.setIfInBounds_toArray, List.set_cons_zero, List.set_cons_succ]
  refine Rt.one (i := 6) rfl (by kernel_rfl) (fun K hK => ?_)
  rw [if_pos (by kernel_rfl)]
  refine wp_oneState 43 rfl rfl ?_
  have hbA := hbW.drew.alloc (.cells (stA x A cap) 54)
  have hXA := hXW.drew.alloc (.cells (stA x A cap) 54)
  have hNA := Blk.new W.drew 54 (stA x A cap)
  have hrA := hrowW.drew.alloc (.cells (stA x A cap) 54)
  have hFA := (hFW.drew).alloc (.cells (stA x A cap) 54)
  refine hK.out _ _ ⟨hbA.cell 1, hXA.range⟩ (Rt.one (i := 7) rfl (by kernel_rfl) (fun K2 hK2 => ?_))
  clear hK K hS
  rw [if_pos (by kernel_rfl)]
  obtain ⟨ti, t1, t2, t3, t4⟩ := info_parts infoState3
  refine wp_append_lies _ (.tmp 42) (.tmp 44) 69 rfl B 54 ti _ 7 72 Try.underlying69 t1 t2 t3 t4 rfl (by decide) v st.length xs rfl hrA ⟨W.drew.heap.size, 0, none⟩ 1 1 (stA x A cap).toList rfl rfl hNA.news (stA_all x A cap) (by decide) (by simp only [maxLen]; omega) (by omega) (by have := hFA.size; omega) _ rfl ?_
  intro g cap' w1 hown hgrow hat hltg
  have hF1 := Fr.ofGrown hgrow
  have hgrow' := hgrow
  have hge : w.heap.size ≤ W.heap.size := hFW.size
  have hsz : (W.drew.alloc (.cells (stA x A cap) 54)).heap.size = W.heap.size + 1 := World.size_alloc _ _
  rw [hsz] at hat
  have hb1 := hF1.blk hbA (fun h => hap.1 h.symm)
  have hX1 := hF1.blk hXA (fun h => by have := hrow.lt _ h.symm; omega)
  have hF2 : Fr (Mv bb gm v) w w1 := hFA.call hF1 fun k _ h => .inr (.inr h.symm)
  refine hK2.out _ _ ⟨hb1.cell 1, hX1.range⟩ (Rt.done (by kernel_rfl) ?_)
  clear hK2 K2 hNA hXA hbA hFA hrA hXW hbW hrowW hF1 t1 t2 t3 t4 ti hX1
  have hgb : g ≠ bb := by rcases hat with h | h; (intro e; subst e; exact hap.1 h); omega
  have hgm : g ≠ gm := by rcases hat with h | h; (intro e; subst e; exact hap.2 h); omega
  have c1 := hb1.cell 1
  have f1 := hb1.frozen 1
  have hlw : wrap64 ((st.length + 1 : Nat) - 1 : Int) = st.length := by unfold wrap64; omega
  go_wp2
  go_ret
  unfold Added
  rw [hd]
  refine ⟨rfl, _, _, ⟨⟨_, hb1.set_ 1 _, rfl, ?_⟩, ?_, hfit2, ⟨?_, ?_⟩, ?_⟩, .inr ⟨rfl, rfl, rfl⟩, hF2.set (.inr (.inl rfl)) _, fun k hk => ?_⟩
  · exact Me.fr (Me.fr (hmW.drew.alloc _) (Fr.ofGrown hgrow') (fun h => hap.2 h.symm)) ((Fr.refl (At bb) _).setB 1 _) hgne
  · rw [List.length_append]
    exact ownsRow_setCell_other hown (fun h => hgb (by injection h)) _
  · exact fun h => hgb (Option.some.inj h)
  · exact fun h => hgm (Option.some.inj h)
  · have := (hF2.set (.inr (.inl rfl)) (p := ⟨bb, 1, none⟩) (.slice (some ⟨g, 0, none⟩) (st.length + 1) cap')).size
    omega
  · obtain rfl : g = k := Option.some.inj hk
    rcases hat with h | h
    · exact .inl h
    · exact .inr (by omega)
theorem add_x (h : Bd w B bb gm b xs v) (hl : b.st.length < 4294967296) (hB : B ≤ w.heap.size) :
    Calls Try.prog 37 #[.pointer (some ⟨bb, 0, none⟩), .agg (stA x A cap)] w fun r w' => r = .returned (.int .i64 (b.add x).2) ∧ Added w w' B bb gm b x (stA x A cap).toList xs v := by
  by_cases he : b.e = 0
  · cases hm : b.m with
    | none => exact add_none w B bb gm b x xs v A cap h he hm hl hB
    | some m =>
      cases ht : (m.take 1).1 with
      | false => exact add_mem w B bb gm b x xs v A cap m h he hm hl hB ht
      | true => cases hs : ((m.take 1).2.step 1).1 with
        | false => exact add_steps w B bb gm b x xs v A cap m h he hm hl hB ht hs
        | true => exact add_some w B bb gm b x xs v A cap m h he hm hl hB ht hs
  · exact add_dead w B bb gm b x xs v A cap h he
/-- The same, as all calls of the builder have it. -/
theorem add_c (lo : Nat) (h : Bd w B bb gm b xs v) (hl : b.st.length < 4294967296) (hB : B ≤ w.heap.size) (hlo : bb < lo ∧ gm < lo ∧ lo ≤ w.heap.size) (hx : Rep w (fun k => lo ≤ k ∧ v.ownBlock ≠ some k) (.slice A x.eps.length cap) (.sl 3 x.eps.length (encI x.eps))) :
    Calls Try.prog 37 #[.pointer (some ⟨bb, 0, none⟩), .agg (stA x A cap)] w fun r w' => r = .returned (.int .i64 (b.add x).2) ∧ Aft w w' lo B bb gm b (b.add x).1 xs v := by
  refine (add_x w B bb gm b x xs v A cap h hl hB).mono ?_
  rintro e w' ⟨he, v', ys, hb, hc, hf, ho⟩
  refine ⟨he, v', ys, ?_⟩
  rcases hc with ⟨h1, rfl, _⟩ | ⟨h1, rfl, _⟩
  · exact ⟨[], hb, by rw [h1, List.append_nil], .nil, hf, ho⟩
  · refine ⟨[x], hb, h1, ?_, hf, ho⟩
    rw [encSs_one]
    refine stA_reps (hx.fr hf fun k hk hl => ⟨?_, hk.1, fun hc => ?_⟩)
    · rintro (h1 | h1 | h1)
      · omega
      · omega
      · exact hk.2 h1
    · rcases ho k hc with h1 | h1
      · exact hk.2 h1
      · omega
end
end
section
open Go Go.RowKit

theorem stA_over (l : List Nat) (A : Option Addr) (cap : Nat) : stA (over l) A cap = #[.int .u64 0, .int .u64 0, .int .u64 0, .int .u64 0, .int .i64 (-1), .int .i64 (-1), .slice A l.length cap] := by
  simp [stA, over, wd_zero]
theorem stA_class (s next : Nat) : stA ⟨s, (next : Int), -1, []⟩ none 0 = #[.int .u64 (wd s 0), .int .u64 (wd s 1), .int .u64 (wd s 2), .int .u64 (wd s 3), .int .i64 next, .int .i64 (-1), .slice none 0 0] := by
  simp [stA]
theorem stA_end (i : Nat) : stA ⟨0, -1, (i : Int), []⟩ none 0 = #[.int .u64 0, .int .u64 0, .int .u64 0, .int .u64 0, .int .i64 (-1), .int .i64 i, .slice none 0 0] := by
  simp [stA, wd_zero]
set_option maxRecDepth 100000 in
set_option maxHeartbeats 800000 in
theorem over_c (l : List Nat) (A : Option Addr) (cap : Nat) (w : World) :
    Calls Try.prog 38 #[.slice A l.length cap] w fun r w' => r = .returned (.agg (stA (over l) A cap)) ∧ Fr No w w' := by
  generalize hz : (#[.int .u64 0, .int .u64 0, .int .u64 0, .int .u64 0, .int .i64 0, .int .i64 0, .slice none 0 0] : Array Value) = z
  have hzs : z.size = 7 := by rw [← hz]; rfl
  have hB := Blk.new w 54 z
  have hF : Fr No w _ := (Fr.refl No w).alloc (.cells z 54)
  have hst := stA_over l A cap
  generalize stA (over l) A cap = cs at *
  have hc1 : cs.all (·.oneCell') = true := by rw [hst]; simp [Value.oneCell']
  have hcs7 : cs.size = 7 := by rw [hst]; rfl
  subst hz
  go_enter Try.func38, Try.ntmps38
  go_wp2_with ((with_reducible refine at_store _ ?_); refine wpList_store_blk (cs := cs) rfl rfl rfl (by rw [hst]; rfl) hB (by rw [hcs7]; rfl) (by rw [hcs7]; exact infoState) hc1 ?_; intro W hW hfW _)
  refine bodyPost_blk rfl rfl hW Try.underlying54 rfl (by rw [hcs7]; exact infoState) rfl ?_
  exact ⟨rfl, hF.callAt hfW (Nat.le_refl _)⟩
end
section
open Go Go.RowKit

theorem node_set {w : World} {b off : Nat} {n : Nd} {A : Option Addr} {cap : Nat} (h : w.rangeAt b off (nodeA n A cap).toList) : w.rangeAt b (off + 1) (setA n.set).toList := fun j v hv => by
  have : (nodeA n A cap).toList[1 + j]? = some v := by
    rcases j with _ | _ | _ | _ | j
    all_goals first | exact hv | (simp [setA] at hv)
  rw [Nat.add_assoc]
  exact h (1 + j) v this
theorem node_kind {w : World} {b off : Nat} {n : Nd} {A : Option Addr} {cap : Nat} (h : w.rangeAt b off (nodeA n A cap).toList) : w.cell? ⟨b, off, none⟩ = some (.int .i64 n.kind) := h 0 _ rfl
theorem node_subs {w : World} {b off : Nat} {n : Nd} {A : Option Addr} {cap : Nat} (h : w.rangeAt b off (nodeA n A cap).toList) : w.cell? ⟨b, off + 7, none⟩ = some (.slice A n.subs.length cap) := h 7 _ rfl
theorem range_fr {M : Nat → Prop} {w w' : World} {b off : Nat} {vs : List Value} (h : w.rangeAt b off vs) (hf : Fr M w w') (hn : ¬ M b) : w'.rangeAt b off vs := fun j v hv => hf.cell (p := ⟨b, off + j, none⟩) hn (h j v hv)
section
variable (w : World) (B bb gm : Nat) (b : Bst) (xs : List Value) (v : Value) (A : Option Addr) (cap : Nat) (lo : Nat)
set_option maxRecDepth 100000 in
set_option maxHeartbeats 1600000 in
theorem class_b (n : Nd) (next blk off : Nat) (h : Bd w B bb gm b xs v) (hl : b.st.length < 4294967296) (hB : B ≤ w.heap.size) (hlo : bb < lo ∧ gm < lo ∧ lo ≤ w.heap.size) (hn : w.rangeAt blk off (nodeA n A cap).toList) :
    Calls Try.prog 53 #[.pointer (some ⟨bb, 0, none⟩), .pointer (some ⟨blk, off, none⟩), .int .i64 next] w fun r w' => r = .returned (.int .i64 (b.add ⟨n.set, (next : Int), -1, []⟩).2) ∧ Aft w w' lo B bb gm b (b.add ⟨n.set, (next : Int), -1, []⟩).1 xs v := by
  have hadd := add_c w B bb gm b ⟨n.set, (next : Int), -1, []⟩ xs v none 0 lo h hl hB hlo (.nil0 (Nat.zero_le _))
  rw [stA_class] at hadd
  have hset := node_set hn
  have Hn := hid hn
  clear hn
  go_enter Try.func53, Try.ntmps53
  go_wp2_with (first | ((with_reducible refine at_load _ ?_); refine wpList_load_rng (ty := 35) (cs := setA n.set) rfl rfl rfl hset Try.underlying35 rfl infoSet ?_; unfold setA) |
    (go_at_call 37; refine hadd.mono ?_; rintro e w2 ⟨rfl, haft⟩))
  go_ret
  exact ⟨rfl, haft⟩
end
end
end Go.Proofs.Ytldmdlkjpdfonaa
