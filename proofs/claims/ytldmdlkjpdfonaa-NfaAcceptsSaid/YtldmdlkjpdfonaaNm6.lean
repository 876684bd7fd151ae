/- The walk of the builder's cat, over the contract of node. The walk of the builder's alt, over the contract of node. -/
import Derived.Test.YtldmdlkjpdfonaaNm4
import Derived.Test.YtldmdlkjpdfonaaMax
namespace Go.Proofs.Ytldmdlkjpdfonaa
set_option linter.unusedVariables false
set_option linter.unusedSimpArgs false
section
open Go Go.RowKit

/-- After it one may go on. -/
theorem Aft.glue {w w1 : World} {lo B bb gm : Nat} {b b1 : Bst} {xs ys : List Value} {nw : List NS} {v v1 : Value} (hs1 : b1.st = b.st ++ nw) (hr1 : Reps w1 (fun k => lo ≤ k ∧ v1.ownBlock ≠ some k) ys (encSs nw))
    (hf1 : Fr (Mv bb gm v) w w1) (ho1 : ∀ k, v1.ownBlock = some k → v.ownBlock = some k ∨ w.heap.size ≤ k) (hlo : bb < lo ∧ gm < lo) {w2 : World} {b2 : Bst} (h2 : Aft w1 w2 lo B bb gm b1 b2 (xs ++ ys) v1) : Aft w w2 lo B bb gm b b2 xs v := by
  obtain ⟨v2, ys2, nw2, hb2, hs2, hr2, hf2, ho2⟩ := h2
  refine ⟨v2, ys ++ ys2, nw ++ nw2, by rw [← List.append_assoc]; exact hb2, by rw [hs2, hs1, List.append_assoc], ?_, hf1.call hf2 (Mv.step ho1), fun k hk => ?_⟩
  · rw [encSs_append]
    refine (hr1.fr hf2 fun k hk hl => ⟨?_, hk.1, fun hc => ?_⟩).append hr2
    · rintro (h1 | h1 | h1)
      · omega
      · omega
      · exact hk.2 h1
    · rcases ho2 k hc with h1 | h1
      · exact hk.2 h1
      · omega
  · rcases ho2 k hk with h1 | h1
    · exact ho1 k h1
    · exact .inr (Nat.le_trans hf1.size h1)
theorem Aft.opens {w w1 : World} {lo B bb gm : Nat} {b b1 : Bst} {xs : List Value} {v : Value} (h : Aft w w1 lo B bb gm b b1 xs v) (hlo : bb < lo ∧ gm < lo) :
    ∃ v1 xs1, Bd w1 B bb gm b1 xs1 v1 ∧ Fr (Mv bb gm v) w w1 ∧ (∀ k, v1.ownBlock = some k → v.ownBlock = some k ∨ w.heap.size ≤ k) ∧ ∀ w2 b2, Aft w1 w2 lo B bb gm b1 b2 xs1 v1 → Aft w w2 lo B bb gm b b2 xs v := by
  obtain ⟨v1, ys, nw, hb1, hs1, hr1, hf1, ho1⟩ := h
  exact ⟨v1, xs ++ ys, hb1, hf1, ho1, fun w2 b2 h2 => Aft.glue hs1 hr1 hf1 ho1 hlo h2⟩
theorem nodeB_len (n : Nd) (next : Nat) (b : Bst) (hf : Fits b.m) : (nodeB n next b).1.st.length ≤ b.st.length + nfaLen n := by
  by_cases he : b.e = 0
  · rcases nodeB_run n next b he hf with ⟨m', hr, _⟩ | ⟨_, _, k, _, _, h1, h2, _⟩
    · rw [hr]; exact Nat.le_of_eq (nfaN_len n next b.st)
    · omega
  · rw [nodeB_dead _ _ _ he]; exact Nat.le_add_right _ _
theorem catB_len (l : List Nd) (next : Nat) (b : Bst) (hf : Fits b.m) : (catB l next b).1.st.length ≤ b.st.length + nfaLens l := by
  by_cases he : b.e = 0
  · rcases catB_run l next b he hf with ⟨m', hr, _⟩ | ⟨_, _, k, _, _, h1, h2, _⟩
    · rw [hr]; exact Nat.le_of_eq (nfaCat_len l next b.st)
    · omega
  · rw [catB_dead _ _ _ he]; exact Nat.le_add_right _ _
theorem altB_len (l : List Nd) (next : Nat) (b : Bst) (hf : Fits b.m) : (altB l next b).1.st.length ≤ b.st.length + nfaLens l := by
  by_cases he : b.e = 0
  · rcases altB_run l next b he hf with ⟨m', hr, _⟩ | ⟨_, _, k, _, _, h1, h2, _⟩
    · rw [hr]; exact Nat.le_of_eq (nfaAlt_len l next b.st)
    · omega
  · rw [altB_dead _ _ _ he]; exact Nat.le_add_right _ _
theorem catB_drop {l : List Nd} {j : Nat} {a : Nd} (h : l[j]? = some a) (next : Nat) (b : Bst) : catB (l.drop j) next b = nodeB a (catB (l.drop (j + 1)) next b).2 (catB (l.drop (j + 1)) next b).1 := by
  obtain ⟨h1, rfl⟩ := List.getElem?_eq_some_iff.1 h
  rw [List.drop_eq_getElem_cons h1]
  rfl
theorem nfaLens_drop {l : List Nd} {j : Nat} {a : Nd} (h : l[j]? = some a) : nfaLen a + nfaLens (l.drop (j + 1)) = nfaLens (l.drop j) := by
  obtain ⟨h1, rfl⟩ := List.getElem?_eq_some_iff.1 h
  rw [List.drop_eq_getElem_cons h1]
  rfl
theorem nfaLens_le : ∀ (l : List Nd) (j : Nat), nfaLens (l.drop j) ≤ nfaLens l
  | [], j => by simp
  | a :: l, 0 => by simp
  | a :: l, j + 1 => by simp only [List.drop_succ_cons, nfaLens]; have := nfaLens_le l j; omega
theorem okNs_get : ∀ {l : List Nd} {j : Nat} {a : Nd}, l[j]? = some a → okNs l = true → okN a = true
  | [], _, _, h, _ => by simp at h
  | x :: l, 0, a, h, hk => by simp at h; subst h; unfold okNs at hk; exact (Bool.and_eq_true _ _ ▸ hk).1
  | x :: l, j + 1, a, h, hk => by unfold okNs at hk; exact okNs_get (by simpa using h) (Bool.and_eq_true _ _ ▸ hk).2
mutual
/-- How many expressions one has in it. -/
def Nd.count : Nd → Nat
  | .mk _ _ _ _ l => ncounts l + 1
def ncounts : List Nd → Nat
  | [] => 0
  | a :: l => a.count + ncounts l
end
theorem Nd.count_eq (n : Nd) : n.count = ncounts n.subs + 1 := by cases n; rfl
theorem Nd.count_pos (n : Nd) : 1 ≤ n.count := by rw [n.count_eq]; omega
mutual
theorem nfaLen_le : ∀ n : Nd, nfaLen n ≤ n.count
  | .mk k _ _ _ l => by
    unfold nfaLen Nd.count
    have := nfaLens_le_ l
    have := nfaLen1_le l
    split
    · omega
    split
    · omega
    split
    · omega
    split <;> omega
theorem nfaLens_le_ : ∀ l : List Nd, nfaLens l ≤ ncounts l
  | [] => Nat.le_refl _
  | a :: l => by unfold nfaLens ncounts; have := nfaLen_le a; have := nfaLens_le_ l; omega
theorem nfaLen1_le : ∀ l : List Nd, nfaLen1 l ≤ ncounts l
  | [] => Nat.le_refl _
  | a :: l => by unfold nfaLen1 ncounts; have := nfaLen_le a; omega
end
theorem ncounts_len : ∀ l : List Nd, l.length ≤ ncounts l
  | [] => Nat.le_refl _
  | a :: l => by simp only [List.length_cons, ncounts]; have := ncounts_len l; have := a.count_pos; omega
theorem ncounts_drop {l : List Nd} {j : Nat} {a : Nd} (h : l[j]? = some a) : a.count + nfaLens (l.drop (j + 1)) ≤ ncounts l := by
  induction l generalizing j with
  | nil => simp at h
  | cons x l ih =>
    cases j with
    | zero => simp at h; subst h; simp only [List.drop_succ_cons, List.drop_zero, ncounts]; have := nfaLens_le_ l; omega
    | succ j => simp only [List.drop_succ_cons, ncounts]; have := ih (j := j) (by simpa using h); omega
theorem ncounts_take {l : List Nd} {j : Nat} {a : Nd} (h : l[j]? = some a) : nfaLens (l.take j) + a.count ≤ ncounts l := by
  induction l generalizing j with
  | nil => simp at h
  | cons x l ih =>
    cases j with
    | zero => simp at h; subst h; simp only [List.take_zero, nfaLens, ncounts]; omega
    | succ j => simp only [List.take_succ_cons, nfaLens, ncounts]; have := ih (j := j) (by simpa using h); have := nfaLen_le x; omega
/-- What is asked of the builder at an expression's part. -/
def NSpec (S : Nat → Prop) (B bb gm k : Nat) : Prop :=
  ∀ (lo : Nat) (n : Nd) (next blk off : Nat) (A : Option Addr) (cap : Nat) (b : Bst) (xs : List Value) (v : Value) (w : World), n.depth ≤ k → Bd w B bb gm b xs v → okN n = true → b.st.length + n.count < 4294967296 → B ≤ w.heap.size → bb < lo → gm < lo → lo ≤ w.heap.size →
    w.rangeAt blk off (nodeA n A cap).toList → S blk → Rep w S (.slice A n.subs.length cap) (.sl 37 n.subs.length (encNs n.subs)) →
    Calls Try.prog 39 #[.pointer (some ⟨bb, 0, none⟩), .pointer (some ⟨blk, off, none⟩), .int .i64 next] w fun r w' => r = .returned (.int .i64 (nodeB n next b).2) ∧ Aft w w' lo B bb gm b (nodeB n next b).1 xs v
theorem Mv.far {S : Nat → Prop} {B bb gm : Nat} {w : World} {b : Bst} {xs : List Value} {v : Value} (hS : ∀ k, S k → k < B ∧ k ≠ bb ∧ k ≠ gm) (h : Bd w B bb gm b xs v) : ∀ k, S k → ¬ Mv bb gm v k := by
  rintro k hk (h1 | h1 | h1)
  · exact (hS k hk).2.1 h1
  · exact (hS k hk).2.2 h1
  · have := (h.row.lt k h1).1
    have := (hS k hk).1
    omega
set_option maxRecDepth 100000 in
set_option maxHeartbeats 4000000 in
theorem cat_b (S : Nat → Prop) (w : World) (B bb gm : Nat) (b : Bst) (xs : List Value) (v : Value) (A : Option Addr) (cap lo k : Nat) (n : Nd) (next blk off : Nat) (hS : ∀ k, S k → k < B ∧ k ≠ bb ∧ k ≠ gm)
    (h : Bd w B bb gm b xs v) (hl : b.st.length + ncounts n.subs < 4294967296) (hB : B ≤ w.heap.size) (hlo : bb < lo ∧ gm < lo) (hlw : lo ≤ w.heap.size)
    (hn : w.rangeAt blk off (nodeA n A cap).toList) (hSb : S blk) (hrep : Rep w S (.slice A n.subs.length cap) (.sl 37 n.subs.length (encNs n.subs))) (hk : ndepths n.subs ≤ k) (hok : okNs n.subs = true) (Hih : Hid (NSpec S B bb gm k)) :
    Calls Try.prog 54 #[.pointer (some ⟨bb, 0, none⟩), .pointer (some ⟨blk, off, none⟩), .int .i64 next] w fun r w' => r = .returned (.int .i64 (catB n.subs next b).2) ∧ Aft w w' lo B bb gm b (catB n.subs next b).1 xs v := by
  have hcap : n.subs.length ≤ cap ∧ cap ≤ maxLen := by
    obtain ⟨A2, c2, heq, h1, h2⟩ := hrep.sl_inv
    injection heq with e1 e2 e3
    omega
  have hmx := maxLen_eq
  have hsub := node_subs hn
  have hw1 : wrap64 ((n.subs.length : Int) - 1) = (n.subs.length : Int) - 1 := by unfold wrap64; omega
  go_enter Try.func54, Try.ntmps54
  go_wp2_with fail
  go_loopg [2, 7] n.subs.length (fun g nx i wr => ∃ z : Int, i = .int .i64 z ∧ z + 1 = (g : Int) ∧ g ≤ n.subs.length ∧ nx = .int .i64 (catB (n.subs.drop g) next b).2 ∧ Aft w wr lo B bb gm b (catB (n.subs.drop g) next b).1 xs v)
  case atStart => exact ⟨_, rfl, by omega, Nat.le_refl _, by rw [List.drop_length]; rfl, by rw [List.drop_length]; exact Aft.refl h lo⟩
  case round =>
    obtain ⟨z, rfl, hz, hgl, rfl, haft⟩ := hrel
    cases gk with
    | zero =>
      obtain rfl : z = -1 := by omega
      rw [List.drop_zero] at *
      clear hsub hw1
      go_wp2_with fail
      go_ret
      exact ⟨rfl, haft⟩
    | succ g =>
      obtain rfl : z = (g : Int) := by omega
      obtain ⟨n', hn'⟩ : ∃ n', n.subs[g]? = some n' := ⟨_, List.getElem?_eq_getElem (by omega)⟩
      obtain ⟨v1, xs1, hb1, hf1, ho1, hgo⟩ := haft.opens hlo
      have hfar := Mv.far hS h
      have hrep1 := hrep.fr hf1 fun k hk _ => ⟨hfar k hk, hk⟩
      have hsub1 := node_subs (range_fr hn hf1 (hfar blk hSb))
      obtain ⟨bs, os, A', cap', rfl, hSs, hlts, hrng, hrep'⟩ := NodesIn.at_ (l := n.subs) (A := A) (cap := cap) (w := wr) (S := S) hrep1 hn'
      rw [Nat.mul_comm 8 g] at hrng
      have hlen1 := catB_len (n.subs.drop (g + 1)) next b h.fits
      have hln := ncounts_drop hn'
      have hcall := Hih.out lo n' (catB (n.subs.drop (g + 1)) next b).2 bs (os + g * 8) A' cap' (catB (n.subs.drop (g + 1)) next b).1 xs1 v1 wr (by have := ndepths_get hn'; omega) hb1 (okNs_get hn' hok) (by omega) (by have := hf1.size; omega) hlo.1 hlo.2 (by have := hf1.size; omega) hrng hSs hrep'
      rw [← catB_drop hn' next b] at hcall
      have hd0 : decide ((0 : Int) ≤ (g : Int)) = true := decide_eq_true (by omega)
      have hgL : (g : Int) < (n.subs.length : Int) := by omega
      have hw2 : wrap64 ((g : Int) - 1) = (g : Int) - 1 := by unfold wrap64; omega
      have Hgl := hid hgl
      clear hsub hlen1 hln hrep1 hrng hrep' hgl hz haft hn hrep hcap hl hn' hmx
      generalize (catB (n.subs.drop (g + 1)) next b) = cb at *
      go_wp2_with (go_at_call 39; refine hcall.mono ?_; rintro e w2 ⟨rfl, ha2⟩)
      go_roundg g
      case measure => omega
      case rel => exact ⟨_, rfl, by omega, by have := Hgl.out; omega, rfl, hgo _ _ ha2⟩
end
section
open Go Go.RowKit

theorem reps_encI {w w' : World} {S S' : Nat → Prop} : ∀ {l : List Nat} {xs : List Value}, Reps w S xs (encI l) → Reps w' S' xs (encI l)
  | [], xs, h => by cases h; exact .nil
  | a :: l, xs, h => by
    cases h with
    | cons h hr =>
      have := h.v_inv
      subst this
      exact .cons (.v rfl) (reps_encI (l := l) hr)
/-- A row of numbers of the call's own, handed on. -/
theorem own_repI {w : World} {B : Nat} {S S' : Nat → Prop} {v : Value} {n : Nat} {l : List Nat} (h : Own w B S 3 1 v n (encI l)) (hs : ∀ k, v.ownBlock = some k → S' k) : Rep w S' v (.sl 3 n (encI l)) := by
  obtain ⟨xs, ⟨h1, h2⟩, h3⟩ := h
  rcases h2 with ⟨rfl, rfl⟩ | ⟨g, cap, cur, rfl, hg, hh, hn, hc, hsz, ht⟩
  · have : xs = [] := List.eq_nil_of_length_eq_zero (by simpa using h1)
    subst this
    have : encI l = [] := by cases l; rfl; cases h3
    rw [this]
    exact .nil0 (Nat.zero_le _)
  · refine .row hn hc (hs g rfl) hh ?_ (reps_encI h3)
    rw [List.drop_zero, ← h3.length, h1]; exact ht
theorem altB_app : ∀ (l : List Nd) (a : Nd) (next : Nat) (b : Bst), altB (l ++ [a]) next b = ((nodeB a next (altB l next b).1).1, (altB l next b).2 ++ [(nodeB a next (altB l next b).1).2])
  | [], a, next, b => rfl
  | x :: l, a, next, b => by
    simp only [List.cons_append, altB]
    rw [altB_app l a next]
theorem altB_take {l : List Nd} {j : Nat} {a : Nd} (h : l[j]? = some a) (next : Nat) (b : Bst) : altB (l.take (j + 1)) next b = ((nodeB a next (altB (l.take j) next b).1).1, (altB (l.take j) next b).2 ++ [(nodeB a next (altB (l.take j) next b).1).2]) := by
  rw [List.take_add_one, h]
  exact altB_app _ _ _ _
theorem altB_lenL : ∀ (l : List Nd) (next : Nat) (b : Bst), (altB l next b).2.length = l.length
  | [], _, _ => rfl
  | a :: l, next, b => by simp only [altB, List.length_cons, altB_lenL l]
theorem nfaLens_take {l : List Nd} {j : Nat} {a : Nd} (h : l[j]? = some a) : nfaLens (l.take j) + nfaLen a ≤ nfaLens l := by
  induction l generalizing j with
  | nil => simp at h
  | cons x l ih =>
    cases j with
    | zero => simp at h; subst h; simp only [List.take_zero, nfaLens]; omega
    | succ j => simp only [List.take_succ_cons, nfaLens]; have := ih (j := j) (by simpa using h); omega
theorem infoInt3 : (Try.prog.info? 3).map (fun i => (i.zero, i.size, i.bytes)) = some (some (.int .i64 0), 1, 8) := by kernel_rfl
theorem wrap_succ {j : Nat} (h : j < 9223372036854775807) : Value.int .i64 (wrap64 ((j : Int) + 1)) = .int .i64 ((j + 1 : Nat) : Int) := by
  have : wrap64 ((j : Int) + 1) = ((j + 1 : Nat) : Int) := by unfold wrap64; omega
  rw [this]
set_option maxRecDepth 100000 in
set_option maxHeartbeats 4000000 in
theorem alt_b (S : Nat → Prop) (w : World) (B bb gm : Nat) (b : Bst) (xs : List Value) (v : Value) (A : Option Addr) (cap lo k : Nat) (n : Nd) (next blk off : Nat) (hS : ∀ k, S k → k < B ∧ k ≠ bb ∧ k ≠ gm)
    (h : Bd w B bb gm b xs v) (hl : b.st.length + ncounts n.subs + 1 < 4294967296) (hB : B ≤ w.heap.size) (hlo : bb < lo ∧ gm < lo) (hlw : lo ≤ w.heap.size)
    (hn : w.rangeAt blk off (nodeA n A cap).toList) (hSb : S blk) (hrep : Rep w S (.slice A n.subs.length cap) (.sl 37 n.subs.length (encNs n.subs))) (hk : ndepths n.subs ≤ k) (hok : okNs n.subs = true) (Hih : Hid (NSpec S B bb gm k)) :
    Calls Try.prog 55 #[.pointer (some ⟨bb, 0, none⟩), .pointer (some ⟨blk, off, none⟩), .int .i64 next] w fun r w' => r = .returned (.int .i64 ((altB n.subs next b).1.add (over (altB n.subs next b).2)).2) ∧ Aft w w' lo B bb gm b ((altB n.subs next b).1.add (over (altB n.subs next b).2)).1 xs v := by
  have hcap : n.subs.length ≤ cap ∧ cap ≤ maxLen := by
    obtain ⟨A2, c2, heq, h1, h2⟩ := hrep.sl_inv
    injection heq with e1 e2 e3
    omega
  have hmx := maxLen_eq
  have hL : n.subs.length < 4294967296 := by have := ncounts_len n.subs; omega
  have hLl := nfaLens_le_ n.subs
  have hsub := node_subs hn
  go_enter Try.func55, Try.ntmps55
  go_wp2_with fail
  go_loopg [7, 14] n.subs.length (fun g t i wr => ∃ (tv : Value) (j : Nat) (v1 : Value) (ys : List Value) (nw : List NS), tv = t ∧ j + g = n.subs.length ∧ i = .int .i64 j ∧ Bd wr B bb gm (altB (n.subs.take j) next b).1 (xs ++ ys) v1 ∧ (altB (n.subs.take j) next b).1.st = b.st ++ nw ∧
    Reps wr (fun k => (lo ≤ k ∧ v1.ownBlock ≠ some k) ∧ tv.ownBlock ≠ some k) ys (encSs nw) ∧ Fr (Mv bb gm v) w wr ∧ (∀ k, v1.ownBlock = some k → v.ownBlock = some k ∨ w.heap.size ≤ k) ∧
    Own wr w.heap.size (fun _ => False) 3 1 tv j (encI (altB (n.subs.take j) next b).2) ∧ (∀ k, tv.ownBlock = some k → v1.ownBlock ≠ some k))
  case atStart => exact ⟨_, 0, v, [], [], rfl, by omega, rfl, by rw [List.append_nil]; exact h, by simp [altB], .nil, Fr.refl _ _, fun k hk => .inl hk, Own.nil _ _ _ _ _, fun k hk => by cases hk⟩
  case round =>
    obtain ⟨tv, j, v1, ys, nw, rfl, hj, rfl, hb1, hs1, hr1, hf1, ho1, htv, hta⟩ := hrel
    cases gk with
    | zero =>
      obtain rfl : j = n.subs.length := by omega
      rw [List.take_length] at *
      have hlen1 := altB_len n.subs next b h.fits
      have htl := altB_lenL n.subs next b
      obtain ⟨A', cap', rfl, _, _⟩ := htv.form
      rw [← htl] at htv
      have hov := over_c (altB n.subs next b).2 A' cap' wr
      rw [htl] at hov
      have hd : decide ((n.subs.length : Int) < (n.subs.length : Int)) = false := decide_eq_false (by omega)
      have hd2 : decide (n.subs.length < n.subs.length) = false := decide_eq_false (by omega)
      have hro : Rep wr (fun k => lo ≤ k ∧ v1.ownBlock ≠ some k) (.slice A' (over (altB n.subs next b).2).eps.length cap') (.sl 3 (over (altB n.subs next b).2).eps.length (encI (over (altB n.subs next b).2).eps)) := by
        show Rep _ _ (.slice A' (altB n.subs next b).2.length cap') (.sl _ (altB n.subs next b).2.length (encI (altB n.subs next b).2))
        rw [htl] at htv ⊢
        refine own_repI htv fun k hk => ⟨?_, hta k hk⟩
        have := (htv.blk_lt k hk).1
        omega
      have hadd := fun W (hf2 : Fr No wr W) => add_c W B bb gm (altB n.subs next b).1 (over (altB n.subs next b).2) (xs ++ ys) v1 A' cap' lo (hb1.no hf2) (by omega) (by have := hf1.size; have := hf2.size; omega) ⟨hlo.1, hlo.2, by have := hf1.size; have := hf2.size; omega⟩ (hro.frNo hf2)
      clear hsub htv hlen1 hj hro
      go_wp2_with (first | (go_at_call 38; refine hov.mono ?_; rintro e w2 ⟨rfl, hf2⟩) |
        (go_at_call 37; go_loud (refine (hadd _ hf2).mono ?_); rintro e w3 ⟨rfl, ha3⟩))
      go_ret
      refine ⟨rfl, Aft.glue hs1 (hr1.mono fun k hk _ => ⟨rfl, hk.1⟩) hf1 ho1 hlo (Aft.ahead hf2 ha3 hb1)⟩
    | succ g =>
      obtain ⟨n', hn'⟩ : ∃ n', n.subs[j]? = some n' := ⟨_, List.getElem?_eq_getElem (by omega)⟩
      have hfar := Mv.far hS h
      have hrep1 := hrep.fr hf1 fun k hk _ => ⟨hfar k hk, hk⟩
      have hsub1 := node_subs (range_fr hn hf1 (hfar blk hSb))
      obtain ⟨bs, os, A', cap', rfl, hSs, hlts, hrng, hrep'⟩ := NodesIn.at_ (l := n.subs) (A := A) (cap := cap) (w := wr) (S := S) hrep1 hn'
      rw [Nat.mul_comm 8 j] at hrng
      have hlen1 := altB_len (n.subs.take j) next b h.fits
      have hln := ncounts_take hn'
      have hws : w.heap.size ≤ wr.heap.size := hf1.size
      have hcall := Hih.out wr.heap.size n' next bs (os + j * 8) A' cap' (altB (n.subs.take j) next b).1 (xs ++ ys) v1 wr (by have := ndepths_get hn'; omega) hb1 (okNs_get hn' hok) (by omega) (by omega) hb1.lt.1 hb1.lt.2 (Nat.le_refl _) hrng hSs hrep'
      have Htk := hid (altB_take hn' next b)
      have hd : decide (j < n.subs.length) = true := decide_eq_true (by omega)
      have hjL : (j : Int) < (n.subs.length : Int) := by omega
      have Hj := hid hj
      have hjs : j < 4294967296 := by omega
      have hjm' : j + 1 ≤ maxLen := by omega
      clear hsub hrep1 hrng hrep' hcap hlen1 hln hn' hmx hn hrep hj
      generalize hcb : altB (n.subs.take j) next b = cb at *
      clear hcb
      have htvF := fun W (hf2 : Fr (Mv bb gm v1) wr W) => htv.fr hf2 (fun k _ hk => by
        rcases hk with hk | hk
        · exact hk.elim
        · have := (htv.blk_lt k hk).1
          rintro (h1 | h1 | h1)
          · omega
          · omega
          · exact hta k hk h1)
      go_wp2_with (first | (go_at_call 39; refine hcall.mono ?_; rintro e w2 ⟨rfl, v2, ys2, nw2, hb2, hs2, hr2, hf2, ho2⟩) |
        (at_builtin; go_loud ((with_reducible refine at_call ?_); refine wpList_append_D (es := [.v (.int .i64 (nodeB n' next cb.1).2)]) (m := 1) rfl (.tmp 17) (.tmp 27) 42 rfl _ 8 Try.underlying42 infoInt3 rfl (by decide) rfl ((htvF _ hf2).alloc _) rfl (news := [.int .i64 (nodeB n' next cb.1).2]) rfl (Blk.new _ 3 #[.int .i64 (nodeB n' next cb.1).2]).news (.cons (.v rfl) .nil) (by omega) (by omega) (by have := hf2.size; rw [World.size_alloc]; omega) ?_); intro tv4 w4 htv4 hg4 hat4))
      go_roundg g
      case measure => omega
      case rel =>
        have hj1 : j + 1 + g = n.subs.length := by have := Hj.out; omega
        have hws2 := hf2.size
        have hfa : Fr No w2 _ := (Fr.refl No w2).alloc (.cells #[.int .i64 (nodeB n' next cb.1).2] 3)
        have hf4 := Fr.ofGrown hg4
        have hsz : (w2.alloc (.cells #[.int .i64 (nodeB n' next cb.1).2] 3)).heap.size = w2.heap.size + 1 := World.size_alloc _ _
        have htlt : ∀ k, tv.ownBlock = some k → w.heap.size ≤ k ∧ k < wr.heap.size := htv.blk_lt
        have hta2 : ∀ k, tv.ownBlock = some k → v2.ownBlock ≠ some k := fun k hk hc => by
          rcases ho2 k hc with h1 | h1
          · exact hta k hk h1
          · have := (htlt k hk).2; omega
        rw [hsz] at hat4
        have hb4 : Bd w4 B bb gm (nodeB n' next cb.1).1 ((xs ++ ys) ++ ys2) v2 := (hb2.no hfa).fr hf4 (fun e => by have := htlt _ e.symm; omega) (fun e => by have := htlt _ e.symm; omega) (fun k hk e => hta2 k e.symm hk)
        have hF4 : Fr (Mv bb gm v) w w4 := ((hf1.call hf2 (Mv.step ho1)).no hfa).call hf4 fun k hk e => by have := htlt _ e.symm; omega
        refine ⟨tv4, j + 1, v2, ys ++ ys2, nw ++ nw2, rfl, hj1, (by first | rfl | exact wrap_succ (by omega)), ?_, ?_, ?_, hF4, fun k hk => ?_, ?_, fun k hk => ?_⟩
        · rw [Htk.out, ← List.append_assoc]; exact hb4
        · rw [Htk.out]; show (nodeB n' next cb.1).1.st = _; rw [hs2, hs1, List.append_assoc]
        · have hnotT : ∀ k, k < w2.heap.size → tv.ownBlock ≠ some k → tv4.ownBlock ≠ some k := fun k hk hne hc => by
            rcases hat4 with h4 | h4
            · rw [h4] at hc; exact hne hc
            · rw [h4] at hc; injection hc with hc; omega
          rw [encSs_append]
          refine Reps.append ?_ ?_
          · have h2 := hr1.fr (S' := fun k => (lo ≤ k ∧ v2.ownBlock ≠ some k) ∧ tv.ownBlock ≠ some k) hf2 (fun k hk hl => ⟨by
              rintro (h1 | h1 | h1)
              · omega
              · omega
              · exact hk.1.2 h1, ⟨hk.1.1, fun hc => by
                rcases ho2 k hc with h1 | h1
                · exact hk.1.2 h1
                · omega⟩, hk.2⟩)
            have h3 := h2.mono (S' := fun k => ((lo ≤ k ∧ v2.ownBlock ≠ some k) ∧ tv.ownBlock ≠ some k) ∧ k < w2.heap.size) (fun k hk hl => ⟨hfa.block k hl id, hk, hl⟩)
            exact (h3.fr (M := fun k => some k = tv.ownBlock) (S' := fun k => (lo ≤ k ∧ v2.ownBlock ≠ some k) ∧ tv4.ownBlock ≠ some k) hf4 (fun k hk _ => ⟨fun e => hk.1.2 e.symm, hk.1.1, hnotT k hk.2 hk.1.2⟩))
          · have h3 := hr2.mono (S' := fun k => (wr.heap.size ≤ k ∧ v2.ownBlock ≠ some k) ∧ k < w2.heap.size) (fun k hk hl => ⟨hfa.block k hl id, hk, hl⟩)
            exact (h3.fr (M := fun k => some k = tv.ownBlock) (S' := fun k => (lo ≤ k ∧ v2.ownBlock ≠ some k) ∧ tv4.ownBlock ≠ some k) hf4 (fun k hk _ => ⟨fun e => by have := htlt _ e.symm; have := hk.1.1; omega, ⟨by have := hk.1.1; omega, hk.1.2⟩, hnotT k hk.2 (fun e => by have := htlt _ e; have := hk.1.1; omega)⟩))
        · rcases ho2 k hk with h1 | h1
          · exact ho1 k h1
          · exact .inr (by omega)
        · rw [Htk.out]
          show Own _ _ _ _ _ _ _ (encI (cb.2 ++ [(nodeB n' next cb.1).2]))
          rw [show encI (cb.2 ++ [(nodeB n' next cb.1).2]) = encI cb.2 ++ [.v (.int .i64 (nodeB n' next cb.1).2)] by simp [encI]]
          exact htv4
        · rcases hat4 with h4 | h4
          · rw [h4] at hk; exact hta2 k hk
          · rw [h4] at hk; injection hk with hk
            intro hc
            have := hb2.own_lt k hc
            omega
end
end Go.Proofs.Ytldmdlkjpdfonaa
