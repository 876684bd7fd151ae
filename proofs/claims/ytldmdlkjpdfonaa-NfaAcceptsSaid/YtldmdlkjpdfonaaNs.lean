/- How many states an expression takes: the walks of nfa.states, nfa.States and sieveref14.States. Condition: fewer than 2^31 expressions in one. -/
import Derived.Test.YtldmdlkjpdfonaaPl
import Derived.Test.YtldmdlkjpdfonaaNb2
namespace Go.Proofs.Ytldmdlkjpdfonaa
set_option linter.unusedVariables false
set_option linter.unusedSimpArgs false
open Go Go.RowKit

mutual
def stN : Nd → Nat
  | .mk k _ _ _ l => (if k = 2 ∨ k = 4 ∨ k = 5 then 1 else 0) + stNs l
def stNs : List Nd → Nat
  | [] => 0
  | a :: l => stN a + stNs l
end
theorem stN_eq (n : Nd) : stN n = (if n.kind = 2 ∨ n.kind = 4 ∨ n.kind = 5 then 1 else 0) + stNs n.subs := by cases n; rfl
mutual
theorem stN_le : ∀ n : Nd, stN n ≤ n.count
  | .mk k _ _ _ l => by unfold stN Nd.count; have := stNs_le l; split <;> omega
theorem stNs_le : ∀ l : List Nd, stNs l ≤ ncounts l
  | [] => Nat.le_refl _
  | a :: l => by unfold stNs ncounts; have := stN_le a; have := stNs_le l; omega
end
theorem stNs_take {l : List Nd} {j : Nat} {a : Nd} (h : l[j]? = some a) : stNs (l.take (j + 1)) = stNs (l.take j) + stN a := by
  induction l generalizing j with
  | nil => simp at h
  | cons x l ih =>
    cases j with
    | zero => simp at h; subst h; simp only [List.take_succ_cons, List.take_zero, stNs]; omega
    | succ j =>
      have := ih (j := j) (by simpa using h)
      rw [List.take_succ_cons, List.take_succ_cons]
      simp only [stNs]
      omega
theorem stNs_take_le {l : List Nd} {j : Nat} {a : Nd} (h : l[j]? = some a) : stNs (l.take j) + a.count ≤ ncounts l := by
  induction l generalizing j with
  | nil => simp at h
  | cons x l ih =>
    cases j with
    | zero => simp at h; subst h; simp only [List.take_zero, stNs, ncounts]; omega
    | succ j => simp only [List.take_succ_cons, stNs, ncounts]; have := ih (j := j) (by simpa using h); have := stN_le x; omega
theorem bareN_leaf {n : Nd} (h : bareN n = true) (hk : n.kind = 1 ∨ n.kind = 2) : n.subs = [] := by
  unfold bareN at h
  rcases hk with hk | hk
  · rw [if_pos hk] at h
    simp only [Bool.and_eq_true, beq_iff_eq] at h
    exact List.eq_nil_of_length_eq_zero h.2
  · rw [if_neg (by omega), if_pos hk] at h
    simp only [Bool.and_eq_true, beq_iff_eq] at h
    exact List.eq_nil_of_length_eq_zero h.2
theorem nfaLen_eq (n : Nd) : nfaLen n = if n.kind = 2 then 1 else if n.kind = 3 then nfaLens n.subs else if n.kind = 4 then nfaLens n.subs + 1 else if n.kind = 5 then nfaLen1 n.subs + 1 else 0 := by cases n; rfl
mutual
/-- Of a plain one: as many as the automaton's. -/
theorem stN_plain : ∀ n : Nd, isPlain n = true → nfaLen n = stN n
  | .mk k s mn mx l, h => by
    have h' := isPlain_eq (.mk k s mn mx l)
    rw [h, eq_comm, Bool.and_eq_true] at h'
    have h1 := stNs_plain l h'.2
    have hb := h'.1
    have hkd := bareN_kind hb
    have hlf := bareN_leaf hb
    rw [nfaLen_eq, stN_eq]
    simp only [Nd.kind, Nd.subs] at hkd hlf ⊢
    rcases hkd with rfl | rfl | rfl | rfl | ⟨rfl, hl⟩
    · have := hlf (.inl rfl); subst this; rfl
    · have := hlf (.inr rfl); subst this; rfl
    · simp only [Int.reduceEq, if_false, if_true, or_self, Nat.zero_add]; exact h1
    · simp only [Int.reduceEq, if_false, if_true, or_true, true_or, false_or]; omega
    · obtain ⟨a, rfl⟩ := List.length_eq_one_iff.1 hl
      simp only [Int.reduceEq, if_false, if_true, or_true, false_or]
      simp only [nfaLens, nfaLen1] at h1 ⊢
      omega
theorem stNs_plain : ∀ l : List Nd, allPlain l = true → nfaLens l = stNs l
  | [], _ => rfl
  | a :: l, h => by
    unfold allPlain at h
    rw [Bool.and_eq_true] at h
    unfold nfaLens stNs
    rw [stN_plain a h.1, stNs_plain l h.2]
end
set_option maxRecDepth 100000 in
set_option maxHeartbeats 8000000 in
theorem nstates_s (k : Nat) (n : Nd) (A : Option Addr) (cap blk off : Nat) (S : Nat → Prop) (w : World) (hk : n.depth ≤ k + 1) (hc : n.count < 2147483648) (hn : w.rangeAt blk off (nodeA n A cap).toList) (hrep : Rep w S (.slice A n.subs.length cap) (.sl 37 n.subs.length (encNs n.subs)))
    (Hih : Hid (∀ (n : Nd) (A : Option Addr) (cap blk off : Nat) (w : World), n.depth ≤ k → n.count < 2147483648 → w.rangeAt blk off (nodeA n A cap).toList → Rep w S (.slice A n.subs.length cap) (.sl 37 n.subs.length (encNs n.subs)) →
      Calls Try.prog 42 #[.pointer (some ⟨blk, off, none⟩)] w fun e w' => e = .returned (.int .i64 (stN n)) ∧ Fr No w w')) :
    Calls Try.prog 42 #[.pointer (some ⟨blk, off, none⟩)] w fun e w' => e = .returned (.int .i64 (stN n)) ∧ Fr No w w' := by
  have hcap : n.subs.length ≤ cap ∧ cap ≤ maxLen := by
    obtain ⟨A2, c2, heq, h1, h2⟩ := hrep.sl_inv
    injection heq with e1 e2 e3
    omega
  have hse := stN_eq n
  have hdp := n.depth_eq
  have hcn := n.count_eq
  have hkd := node_kind hn
  have h7 := fun W (hW : Fr No w W) => node_subs (range_fr hn hW id)
  have h70 := h7 w (Fr.refl _ _)
  have hst : ∃ c : Nat, c ≤ 1 ∧ stN n = c + stNs n.subs ∧ c = (if n.kind = 2 ∨ n.kind = 4 ∨ n.kind = 5 then 1 else 0) := ⟨_, by split <;> omega, hse, rfl⟩
  obtain ⟨c, hc1, hsc, hcd⟩ := hst
  have Hsc := hid hsc
  have Hse := hid hse
  have Hcd := hid hcd
  clear hsc hse hcd hn
  have h4 : (n.kind = 2 ∧ c = 1) ∨ (n.kind = 4 ∧ c = 1) ∨ (n.kind = 5 ∧ c = 1) ∨ ((n.kind == 2) = false ∧ (n.kind == 4) = false ∧ (n.kind == 5) = false ∧ c = 0) := by
    have h := Hcd.out
    by_cases h2 : n.kind = 2
    · rw [if_pos (.inl h2)] at h; exact .inl ⟨h2, h⟩
    by_cases h4 : n.kind = 4
    · rw [if_pos (.inr (.inl h4))] at h; exact .inr (.inl ⟨h4, h⟩)
    by_cases h5 : n.kind = 5
    · rw [if_pos (.inr (.inr h5))] at h; exact .inr (.inr (.inl ⟨h5, h⟩))
    rw [if_neg (by omega)] at h
    exact .inr (.inr (.inr ⟨by simpa using h2, by simpa using h4, by simpa using h5, h⟩))
  clear Hcd Hse
  rcases h4 with ⟨hk4, rfl⟩ | ⟨hk4, rfl⟩ | ⟨hk4, rfl⟩ | ⟨hk2, hk4, hk5, rfl⟩
  · rw [hk4] at hkd
    go_enter Try.func42, Try.ntmps42
    go_wp2_with fail
    go_loopg [2, 28] n.subs.length (fun g t i wr => ∃ j : Nat, j + g = n.subs.length ∧ i = .int .i64 j ∧ t = .int .i64 ((1 + stNs (n.subs.take j) : Nat) : Int) ∧ Fr No w wr)
    case atStart => exact ⟨0, by omega, rfl, rfl, Fr.refl _ _⟩
    case round =>
      obtain ⟨j, hj, rfl, rfl, hF⟩ := hrel
      have h7r := h7 _ hF
      cases gk with
      | zero =>
        have hd1 : decide (j < n.subs.length) = false := decide_eq_false (by omega)
        obtain rfl : j = n.subs.length := by omega
        rw [List.take_length, ← Hsc.out]
        clear h70
        go_wp2_with fail
        go_ret
        exact ⟨rfl, hF⟩
      | succ g =>
        obtain ⟨n', hn'⟩ : ∃ n', n.subs[j]? = some n' := ⟨_, List.getElem?_eq_getElem (by omega)⟩
        obtain ⟨bs, os, A', cap', rfl, hSs, hlts, hrng, hrep'⟩ := NodesIn.at_ (l := n.subs) (A := A) (cap := cap) (w := wr) (S := S) (hrep.frNo hF) hn'
        rw [Nat.mul_comm 8 j] at hrng
        have hd1 : decide (j < n.subs.length) = true := decide_eq_true (by omega)
        have hjL : (j : Int) < (n.subs.length : Int) := by omega
        have hdn := ndepths_get hn'
        have hle := stNs_take_le hn'
        have hsl := stN_le n'
        have Htk := hid (stNs_take hn')
        have Hj := hid hj
        have hcall := Hih.out n' A' cap' bs (os + j * 8) wr (by omega) (by omega) hrng hrep'
        have hw : wrap64 (((1 + stNs (n.subs.take j) : Nat) : Int) + (stN n' : Int)) = ((1 + stNs (n.subs.take j) : Nat) : Int) + (stN n' : Int) := by unfold wrap64; omega
        have hsum : ((1 + stNs (n.subs.take j) : Nat) : Int) + (stN n' : Int) = ((1 + stNs (n.subs.take (j + 1)) : Nat) : Int) := by rw [Htk.out]; omega
        clear hn' hj hdn h70
        generalize hT : ((1 + stNs (n.subs.take j) : Nat) : Int) = T at *
        generalize hT2 : ((1 + stNs (n.subs.take (j + 1)) : Nat) : Int) = T2 at *
        go_wp2_with (go_at_call 42; refine hcall.mono ?_; rintro e w2 ⟨rfl, hf2⟩)
        go_roundg g
        case measure => omega
        case rel => exact ⟨j + 1, by have := Hj.out; omega, (by first | rfl | exact wrap_succ (by have := Hj.out; have := maxLen_eq; omega)), by rw [hT2, ← hsum], hF.no hf2⟩
  · rw [hk4] at hkd
    go_enter Try.func42, Try.ntmps42
    go_wp2_with fail
    go_loopg [2, 28] n.subs.length (fun g t i wr => ∃ j : Nat, j + g = n.subs.length ∧ i = .int .i64 j ∧ t = .int .i64 ((1 + stNs (n.subs.take j) : Nat) : Int) ∧ Fr No w wr)
    case atStart => exact ⟨0, by omega, rfl, rfl, Fr.refl _ _⟩
    case round =>
      obtain ⟨j, hj, rfl, rfl, hF⟩ := hrel
      have h7r := h7 _ hF
      cases gk with
      | zero =>
        have hd1 : decide (j < n.subs.length) = false := decide_eq_false (by omega)
        obtain rfl : j = n.subs.length := by omega
        rw [List.take_length, ← Hsc.out]
        clear h70
        go_wp2_with fail
        go_ret
        exact ⟨rfl, hF⟩
      | succ g =>
        obtain ⟨n', hn'⟩ : ∃ n', n.subs[j]? = some n' := ⟨_, List.getElem?_eq_getElem (by omega)⟩
        obtain ⟨bs, os, A', cap', rfl, hSs, hlts, hrng, hrep'⟩ := NodesIn.at_ (l := n.subs) (A := A) (cap := cap) (w := wr) (S := S) (hrep.frNo hF) hn'
        rw [Nat.mul_comm 8 j] at hrng
        have hd1 : decide (j < n.subs.length) = true := decide_eq_true (by omega)
        have hjL : (j : Int) < (n.subs.length : Int) := by omega
        have hdn := ndepths_get hn'
        have hle := stNs_take_le hn'
        have hsl := stN_le n'
        have Htk := hid (stNs_take hn')
        have Hj := hid hj
        have hcall := Hih.out n' A' cap' bs (os + j * 8) wr (by omega) (by omega) hrng hrep'
        have hw : wrap64 (((1 + stNs (n.subs.take j) : Nat) : Int) + (stN n' : Int)) = ((1 + stNs (n.subs.take j) : Nat) : Int) + (stN n' : Int) := by unfold wrap64; omega
        have hsum : ((1 + stNs (n.subs.take j) : Nat) : Int) + (stN n' : Int) = ((1 + stNs (n.subs.take (j + 1)) : Nat) : Int) := by rw [Htk.out]; omega
        clear hn' hj hdn h70
        generalize hT : ((1 + stNs (n.subs.take j) : Nat) : Int) = T at *
        generalize hT2 : ((1 + stNs (n.subs.take (j + 1)) : Nat) : Int) = T2 at *
        go_wp2_with (go_at_call 42; refine hcall.mono ?_; rintro e w2 ⟨rfl, hf2⟩)
        go_roundg g
        case measure => omega
        case rel => exact ⟨j + 1, by have := Hj.out; omega, (by first | rfl | exact wrap_succ (by have := Hj.out; have := maxLen_eq; omega)), by rw [hT2, ← hsum], hF.no hf2⟩
  · rw [hk4] at hkd
    go_enter Try.func42, Try.ntmps42
    go_wp2_with fail
    go_loopg [2, 28] n.subs.length (fun g t i wr => ∃ j : Nat, j + g = n.subs.length ∧ i = .int .i64 j ∧ t = .int .i64 ((1 + stNs (n.subs.take j) : Nat) : Int) ∧ Fr No w wr)
    case atStart => exact ⟨0, by omega, rfl, rfl, Fr.refl _ _⟩
    case round =>
      obtain ⟨j, hj, rfl, rfl, hF⟩ := hrel
      have h7r := h7 _ hF
      cases gk with
      | zero =>
        have hd1 : decide (j < n.subs.length) = false := decide_eq_false (by omega)
        obtain rfl : j = n.subs.length := by omega
        rw [List.take_length, ← Hsc.out]
        clear h70
        go_wp2_with fail
        go_ret
        exact ⟨rfl, hF⟩
      | succ g =>
        obtain ⟨n', hn'⟩ : ∃ n', n.subs[j]? = some n' := ⟨_, List.getElem?_eq_getElem (by omega)⟩
        obtain ⟨bs, os, A', cap', rfl, hSs, hlts, hrng, hrep'⟩ := NodesIn.at_ (l := n.subs) (A := A) (cap := cap) (w := wr) (S := S) (hrep.frNo hF) hn'
        rw [Nat.mul_comm 8 j] at hrng
        have hd1 : decide (j < n.subs.length) = true := decide_eq_true (by omega)
        have hjL : (j : Int) < (n.subs.length : Int) := by omega
        have hdn := ndepths_get hn'
        have hle := stNs_take_le hn'
        have hsl := stN_le n'
        have Htk := hid (stNs_take hn')
        have Hj := hid hj
        have hcall := Hih.out n' A' cap' bs (os + j * 8) wr (by omega) (by omega) hrng hrep'
        have hw : wrap64 (((1 + stNs (n.subs.take j) : Nat) : Int) + (stN n' : Int)) = ((1 + stNs (n.subs.take j) : Nat) : Int) + (stN n' : Int) := by unfold wrap64; omega
        have hsum : ((1 + stNs (n.subs.take j) : Nat) : Int) + (stN n' : Int) = ((1 + stNs (n.subs.take (j + 1)) : Nat) : Int) := by rw [Htk.out]; omega
        clear hn' hj hdn h70
        generalize hT : ((1 + stNs (n.subs.take j) : Nat) : Int) = T at *
        generalize hT2 : ((1 + stNs (n.subs.take (j + 1)) : Nat) : Int) = T2 at *
        go_wp2_with (go_at_call 42; refine hcall.mono ?_; rintro e w2 ⟨rfl, hf2⟩)
        go_roundg g
        case measure => omega
        case rel => exact ⟨j + 1, by have := Hj.out; omega, (by first | rfl | exact wrap_succ (by have := Hj.out; have := maxLen_eq; omega)), by rw [hT2, ← hsum], hF.no hf2⟩
  · go_enter Try.func42, Try.ntmps42
    go_wp2_with fail
    go_loopg [2, 28] n.subs.length (fun g t i wr => ∃ j : Nat, j + g = n.subs.length ∧ i = .int .i64 j ∧ t = .int .i64 ((0 + stNs (n.subs.take j) : Nat) : Int) ∧ Fr No w wr)
    case atStart => exact ⟨0, by omega, rfl, rfl, Fr.refl _ _⟩
    case round =>
      obtain ⟨j, hj, rfl, rfl, hF⟩ := hrel
      have h7r := h7 _ hF
      cases gk with
      | zero =>
        have hd1 : decide (j < n.subs.length) = false := decide_eq_false (by omega)
        obtain rfl : j = n.subs.length := by omega
        rw [List.take_length, ← Hsc.out]
        clear h70
        go_wp2_with fail
        go_ret
        exact ⟨rfl, hF⟩
      | succ g =>
        obtain ⟨n', hn'⟩ : ∃ n', n.subs[j]? = some n' := ⟨_, List.getElem?_eq_getElem (by omega)⟩
        obtain ⟨bs, os, A', cap', rfl, hSs, hlts, hrng, hrep'⟩ := NodesIn.at_ (l := n.subs) (A := A) (cap := cap) (w := wr) (S := S) (hrep.frNo hF) hn'
        rw [Nat.mul_comm 8 j] at hrng
        have hd1 : decide (j < n.subs.length) = true := decide_eq_true (by omega)
        have hjL : (j : Int) < (n.subs.length : Int) := by omega
        have hdn := ndepths_get hn'
        have hle := stNs_take_le hn'
        have hsl := stN_le n'
        have Htk := hid (stNs_take hn')
        have Hj := hid hj
        have hcall := Hih.out n' A' cap' bs (os + j * 8) wr (by omega) (by omega) hrng hrep'
        have hw : wrap64 (((0 + stNs (n.subs.take j) : Nat) : Int) + (stN n' : Int)) = ((0 + stNs (n.subs.take j) : Nat) : Int) + (stN n' : Int) := by unfold wrap64; omega
        have hsum : ((0 + stNs (n.subs.take j) : Nat) : Int) + (stN n' : Int) = ((0 + stNs (n.subs.take (j + 1)) : Nat) : Int) := by rw [Htk.out]; omega
        clear hn' hj hdn h70
        generalize hT : ((0 + stNs (n.subs.take j) : Nat) : Int) = T at *
        generalize hT2 : ((0 + stNs (n.subs.take (j + 1)) : Nat) : Int) = T2 at *
        go_wp2_with (go_at_call 42; refine hcall.mono ?_; rintro e w2 ⟨rfl, hf2⟩)
        go_roundg g
        case measure => omega
        case rel => exact ⟨j + 1, by have := Hj.out; omega, (by first | rfl | exact wrap_succ (by have := Hj.out; have := maxLen_eq; omega)), by rw [hT2, ← hsum], hF.no hf2⟩
theorem nstates_c (S : Nat → Prop) : ∀ (k : Nat) (n : Nd) (A : Option Addr) (cap blk off : Nat) (w : World), n.depth ≤ k → n.count < 2147483648 → w.rangeAt blk off (nodeA n A cap).toList → Rep w S (.slice A n.subs.length cap) (.sl 37 n.subs.length (encNs n.subs)) →
      Calls Try.prog 42 #[.pointer (some ⟨blk, off, none⟩)] w fun e w' => e = .returned (.int .i64 (stN n)) ∧ Fr No w w'
  | 0, n, A, cap, blk, off, w, hk, _, _, _ => by have := n.depth_eq; omega
  | k + 1, n, A, cap, blk, off, w, hk, hc, hn, hr => nstates_s k n A cap blk off S w hk hc hn hr (hid fun n A cap blk off w => nstates_c S k n A cap blk off w)
/-- nfa.States. -/
def nfaStates (n : Nd) : Nat := if isPlain n = true then stN n else 0
set_option maxRecDepth 100000 in
set_option maxHeartbeats 1600000 in
theorem nfaStates_c (n : Nd) (v : Value) (S : Nat → Prop) (w : World) (hc : n.count < 2147483648) (hn : NodeIn w S v n) : Calls Try.prog 16 #[v] w fun e w' => e = .returned (.int .i64 (nfaStates n)) ∧ Fr No w w' := by
  obtain ⟨A, cap, rfl, hrep⟩ := hn
  have hB := Blk.new w 37 (nodeA n A cap)
  have hF : Fr No w _ := (Fr.refl No w).alloc (.cells (nodeA n A cap) 37)
  have hpl := isplain_c S n.depth n (.agg (nodeA n A cap)) _ (Nat.le_refl _) ⟨A, cap, rfl, hrep.alloc (.cells (nodeA n A cap) 37)⟩
  have hst := fun W (hf : Fr No (w.alloc (.cells (nodeA n A cap) 37)) W) => nstates_c S n.depth n A cap w.heap.size 0 W (Nat.le_refl _) hc (range_fr hB.range hf id) ((hrep.alloc (.cells (nodeA n A cap) 37)).frNo hf)
  have hns : nfaStates n = _ := rfl
  unfold nfaStates at hns
  generalize hip : isPlain n = ip at *
  cases ip with
  | true =>
    rw [if_pos rfl] at hns
    have Hns := hid hns
    clear hns
    go_enter Try.func16, Try.ntmps16
    go_wp2_with (first | ((with_reducible refine at_load _ ?_); refine wpList_load_blk (cs := nodeA n A cap) rfl rfl rfl hB Try.underlying37 rfl infoNode ?_) |
      (go_at_call 36; refine hpl.mono ?_; rintro e w2 ⟨rfl, hf2⟩) | (go_at_call 42; refine (hst _ hf2).mono ?_; rintro e w3 ⟨rfl, hf3⟩))
    go_ret
    unfold nfaStates
    rw [hip, if_pos rfl]
    exact ⟨rfl, (hF.no hf2).no hf3⟩
  | false =>
    clear hns
    go_enter Try.func16, Try.ntmps16
    go_wp2_with (first | ((with_reducible refine at_load _ ?_); refine wpList_load_blk (cs := nodeA n A cap) rfl rfl rfl hB Try.underlying37 rfl infoNode ?_) |
      (go_at_call 36; refine hpl.mono ?_; rintro e w2 ⟨rfl, hf2⟩))
    go_ret
    unfold nfaStates
    rw [hip, if_neg (by decide)]
    exact ⟨rfl, hF.no hf2⟩
set_option maxRecDepth 100000 in
set_option maxHeartbeats 8000000 in
theorem rstates_s (k : Nat) (n : Nd) (v : Value) (S : Nat → Prop) (w : World) (hk : n.depth ≤ k + 1) (hc : n.count < 2147483648) (hn : NodeIn w S v n)
    (Hih : Hid (∀ (n : Nd) (v : Value) (w : World), n.depth ≤ k → n.count < 2147483648 → NodeIn w S v n → Calls Try.prog 17 #[v] w fun e w' => e = .returned (.int .i64 (stN n)) ∧ Fr No w w')) :
    Calls Try.prog 17 #[v] w fun e w' => e = .returned (.int .i64 (stN n)) ∧ Fr No w w' := by
  obtain ⟨A, cap, rfl, hrep0⟩ := hn
  have hF0 : Fr No w _ := (Fr.refl No w).alloc (.cells (nodeA n A cap) 37)
  have hrep := hrep0.alloc (.cells (nodeA n A cap) 37)
  have hB0 := Blk.new w 37 (nodeA n A cap)
  have hn : (w.alloc (.cells (nodeA n A cap) 37)).rangeAt w.heap.size 0 (nodeA n A cap).toList := hB0.range
  have hcap : n.subs.length ≤ cap ∧ cap ≤ maxLen := by
    obtain ⟨A2, c2, heq, h1, h2⟩ := hrep.sl_inv
    injection heq with e1 e2 e3
    omega
  have hse := stN_eq n
  have hdp := n.depth_eq
  have hcn := n.count_eq
  have hkd : (w.alloc (.cells (nodeA n A cap) 37)).cell? ⟨w.heap.size, 0, none⟩ = some (.int .i64 n.kind) := node_kind hn
  have h7 : ∀ W, Fr No (w.alloc (.cells (nodeA n A cap) 37)) W → W.cell? ⟨w.heap.size, 7, none⟩ = some (.slice A n.subs.length cap) := fun W hW => (range_fr hn hW id) 7 _ rfl
  have h70 := h7 _ (Fr.refl _ _)
  have hst : ∃ c : Nat, c ≤ 1 ∧ stN n = c + stNs n.subs ∧ c = (if n.kind = 2 ∨ n.kind = 4 ∨ n.kind = 5 then 1 else 0) := ⟨_, by split <;> omega, hse, rfl⟩
  obtain ⟨c, hc1, hsc, hcd⟩ := hst
  have Hsc := hid hsc
  have Hcd := hid hcd
  clear hsc hse hcd hn hrep0
  have h4 : (n.kind = 2 ∧ c = 1) ∨ (n.kind = 4 ∧ c = 1) ∨ (n.kind = 5 ∧ c = 1) ∨ ((n.kind == 2) = false ∧ (n.kind == 4) = false ∧ (n.kind == 5) = false ∧ c = 0) := by
    have h := Hcd.out
    by_cases h2 : n.kind = 2
    · rw [if_pos (.inl h2)] at h; exact .inl ⟨h2, h⟩
    by_cases h4 : n.kind = 4
    · rw [if_pos (.inr (.inl h4))] at h; exact .inr (.inl ⟨h4, h⟩)
    by_cases h5 : n.kind = 5
    · rw [if_pos (.inr (.inr h5))] at h; exact .inr (.inr (.inl ⟨h5, h⟩))
    rw [if_neg (by omega)] at h
    exact .inr (.inr (.inr ⟨by simpa using h2, by simpa using h4, by simpa using h5, h⟩))
  clear Hcd
  rcases h4 with ⟨hk4, rfl⟩ | ⟨hk4, rfl⟩ | ⟨hk4, rfl⟩ | ⟨hk2, hk4, hk5, rfl⟩
  · rw [hk4] at hkd
    go_enter Try.func17, Try.ntmps17
    go_wp2_with fail
    go_loopg [3, 4] n.subs.length (fun g t i wr => ∃ j : Nat, j + g = n.subs.length ∧ i = .int .i64 j ∧ t = .int .i64 ((1 + stNs (n.subs.take j) : Nat) : Int) ∧ Fr No (w.alloc (.cells (nodeA n A cap) 37)) wr)
    case atStart => exact ⟨0, by omega, rfl, rfl, Fr.refl _ _⟩
    case round =>
      obtain ⟨j, hj, rfl, rfl, hF⟩ := hrel
      have h7r := h7 _ hF
      cases gk with
      | zero =>
        have hd1 : decide (j < n.subs.length) = false := decide_eq_false (by omega)
        obtain rfl : j = n.subs.length := by omega
        rw [List.take_length, ← Hsc.out]
        clear h70
        go_wp2_with fail
        go_ret
        exact ⟨rfl, hF0.no hF⟩
      | succ g =>
        obtain ⟨n', hn'⟩ : ∃ n', n.subs[j]? = some n' := ⟨_, List.getElem?_eq_getElem (by omega)⟩
        obtain ⟨bs, os, A', cap', rfl, hSs, hlts, hrng, hrep'⟩ := NodesIn.at_ (l := n.subs) (A := A) (cap := cap) (w := wr) (S := S) (hrep.frNo hF) hn'
        rw [Nat.mul_comm 8 j] at hrng
        have hd1 : decide (j < n.subs.length) = true := decide_eq_true (by omega)
        have hjL : (j : Int) < (n.subs.length : Int) := by omega
        have hdn := ndepths_get hn'
        have hle := stNs_take_le hn'
        have hsl := stN_le n'
        have Htk := hid (stNs_take hn')
        have Hj := hid hj
        have hcall := Hih.out n' (.agg (nodeA n' A' cap')) wr (by omega) (by omega) ⟨A', cap', rfl, hrep'⟩
        have hw : wrap64 (((1 + stNs (n.subs.take j) : Nat) : Int) + (stN n' : Int)) = ((1 + stNs (n.subs.take j) : Nat) : Int) + (stN n' : Int) := by unfold wrap64; omega
        have hsum : ((1 + stNs (n.subs.take j) : Nat) : Int) + (stN n' : Int) = ((1 + stNs (n.subs.take (j + 1)) : Nat) : Int) := by rw [Htk.out]; omega
        clear hn' hj hdn h70
        generalize hT : ((1 + stNs (n.subs.take j) : Nat) : Int) = T at *
        generalize hT2 : ((1 + stNs (n.subs.take (j + 1)) : Nat) : Int) = T2 at *
        go_wp2_with (first | ((with_reducible refine at_load _ ?_); refine wpList_load_rng (cs := nodeA n' A' cap') rfl rfl rfl hrng Try.underlying37 rfl infoNode ?_) | (go_at_call 17; refine hcall.mono ?_; rintro e w2 ⟨rfl, hf2⟩))
        go_roundg g
        case measure => omega
        case rel => exact ⟨j + 1, by have := Hj.out; omega, (by first | rfl | exact wrap_succ (by have := Hj.out; have := maxLen_eq; omega)), by rw [hT2, ← hsum], hF.no hf2⟩
  · rw [hk4] at hkd
    go_enter Try.func17, Try.ntmps17
    go_wp2_with fail
    go_loopg [3, 4] n.subs.length (fun g t i wr => ∃ j : Nat, j + g = n.subs.length ∧ i = .int .i64 j ∧ t = .int .i64 ((1 + stNs (n.subs.take j) : Nat) : Int) ∧ Fr No (w.alloc (.cells (nodeA n A cap) 37)) wr)
    case atStart => exact ⟨0, by omega, rfl, rfl, Fr.refl _ _⟩
    case round =>
      obtain ⟨j, hj, rfl, rfl, hF⟩ := hrel
      have h7r := h7 _ hF
      cases gk with
      | zero =>
        have hd1 : decide (j < n.subs.length) = false := decide_eq_false (by omega)
        obtain rfl : j = n.subs.length := by omega
        rw [List.take_length, ← Hsc.out]
        clear h70
        go_wp2_with fail
        go_ret
        exact ⟨rfl, hF0.no hF⟩
      | succ g =>
        obtain ⟨n', hn'⟩ : ∃ n', n.subs[j]? = some n' := ⟨_, List.getElem?_eq_getElem (by omega)⟩
        obtain ⟨bs, os, A', cap', rfl, hSs, hlts, hrng, hrep'⟩ := NodesIn.at_ (l := n.subs) (A := A) (cap := cap) (w := wr) (S := S) (hrep.frNo hF) hn'
        rw [Nat.mul_comm 8 j] at hrng
        have hd1 : decide (j < n.subs.length) = true := decide_eq_true (by omega)
        have hjL : (j : Int) < (n.subs.length : Int) := by omega
        have hdn := ndepths_get hn'
        have hle := stNs_take_le hn'
        have hsl := stN_le n'
        have Htk := hid (stNs_take hn')
        have Hj := hid hj
        have hcall := Hih.out n' (.agg (nodeA n' A' cap')) wr (by omega) (by omega) ⟨A', cap', rfl, hrep'⟩
        have hw : wrap64 (((1 + stNs (n.subs.take j) : Nat) : Int) + (stN n' : Int)) = ((1 + stNs (n.subs.take j) : Nat) : Int) + (stN n' : Int) := by unfold wrap64; omega
        have hsum : ((1 + stNs (n.subs.take j) : Nat) : Int) + (stN n' : Int) = ((1 + stNs (n.subs.take (j + 1)) : Nat) : Int) := by rw [Htk.out]; omega
        clear hn' hj hdn h70
        generalize hT : ((1 + stNs (n.subs.take j) : Nat) : Int) = T at *
        generalize hT2 : ((1 + stNs (n.subs.take (j + 1)) : Nat) : Int) = T2 at *
        go_wp2_with (first | ((with_reducible refine at_load _ ?_); refine wpList_load_rng (cs := nodeA n' A' cap') rfl rfl rfl hrng Try.underlying37 rfl infoNode ?_) | (go_at_call 17; refine hcall.mono ?_; rintro e w2 ⟨rfl, hf2⟩))
        go_roundg g
        case measure => omega
        case rel => exact ⟨j + 1, by have := Hj.out; omega, (by first | rfl | exact wrap_succ (by have := Hj.out; have := maxLen_eq; omega)), by rw [hT2, ← hsum], hF.no hf2⟩
  · rw [hk4] at hkd
    go_enter Try.func17, Try.ntmps17
    go_wp2_with fail
    go_loopg [3, 4] n.subs.length (fun g t i wr => ∃ j : Nat, j + g = n.subs.length ∧ i = .int .i64 j ∧ t = .int .i64 ((1 + stNs (n.subs.take j) : Nat) : Int) ∧ Fr No (w.alloc (.cells (nodeA n A cap) 37)) wr)
    case atStart => exact ⟨0, by omega, rfl, rfl, Fr.refl _ _⟩
    case round =>
      obtain ⟨j, hj, rfl, rfl, hF⟩ := hrel
      have h7r := h7 _ hF
      cases gk with
      | zero =>
        have hd1 : decide (j < n.subs.length) = false := decide_eq_false (by omega)
        obtain rfl : j = n.subs.length := by omega
        rw [List.take_length, ← Hsc.out]
        clear h70
        go_wp2_with fail
        go_ret
        exact ⟨rfl, hF0.no hF⟩
      | succ g =>
        obtain ⟨n', hn'⟩ : ∃ n', n.subs[j]? = some n' := ⟨_, List.getElem?_eq_getElem (by omega)⟩
        obtain ⟨bs, os, A', cap', rfl, hSs, hlts, hrng, hrep'⟩ := NodesIn.at_ (l := n.subs) (A := A) (cap := cap) (w := wr) (S := S) (hrep.frNo hF) hn'
        rw [Nat.mul_comm 8 j] at hrng
        have hd1 : decide (j < n.subs.length) = true := decide_eq_true (by omega)
        have hjL : (j : Int) < (n.subs.length : Int) := by omega
        have hdn := ndepths_get hn'
        have hle := stNs_take_le hn'
        have hsl := stN_le n'
        have Htk := hid (stNs_take hn')
        have Hj := hid hj
        have hcall := Hih.out n' (.agg (nodeA n' A' cap')) wr (by omega) (by omega) ⟨A', cap', rfl, hrep'⟩
        have hw : wrap64 (((1 + stNs (n.subs.take j) : Nat) : Int) + (stN n' : Int)) = ((1 + stNs (n.subs.take j) : Nat) : Int) + (stN n' : Int) := by unfold wrap64; omega
        have hsum : ((1 + stNs (n.subs.take j) : Nat) : Int) + (stN n' : Int) = ((1 + stNs (n.subs.take (j + 1)) : Nat) : Int) := by rw [Htk.out]; omega
        clear hn' hj hdn h70
        generalize hT : ((1 + stNs (n.subs.take j) : Nat) : Int) = T at *
        generalize hT2 : ((1 + stNs (n.subs.take (j + 1)) : Nat) : Int) = T2 at *
        go_wp2_with (first | ((with_reducible refine at_load _ ?_); refine wpList_load_rng (cs := nodeA n' A' cap') rfl rfl rfl hrng Try.underlying37 rfl infoNode ?_) | (go_at_call 17; refine hcall.mono ?_; rintro e w2 ⟨rfl, hf2⟩))
        go_roundg g
        case measure => omega
        case rel => exact ⟨j + 1, by have := Hj.out; omega, (by first | rfl | exact wrap_succ (by have := Hj.out; have := maxLen_eq; omega)), by rw [hT2, ← hsum], hF.no hf2⟩
  · go_enter Try.func17, Try.ntmps17
    go_wp2_with fail
    go_loopg [3, 4] n.subs.length (fun g t i wr => ∃ j : Nat, j + g = n.subs.length ∧ i = .int .i64 j ∧ t = .int .i64 ((0 + stNs (n.subs.take j) : Nat) : Int) ∧ Fr No (w.alloc (.cells (nodeA n A cap) 37)) wr)
    case atStart => exact ⟨0, by omega, rfl, rfl, Fr.refl _ _⟩
    case round =>
      obtain ⟨j, hj, rfl, rfl, hF⟩ := hrel
      have h7r := h7 _ hF
      cases gk with
      | zero =>
        have hd1 : decide (j < n.subs.length) = false := decide_eq_false (by omega)
        obtain rfl : j = n.subs.length := by omega
        rw [List.take_length, ← Hsc.out]
        clear h70
        go_wp2_with fail
        go_ret
        exact ⟨rfl, hF0.no hF⟩
      | succ g =>
        obtain ⟨n', hn'⟩ : ∃ n', n.subs[j]? = some n' := ⟨_, List.getElem?_eq_getElem (by omega)⟩
        obtain ⟨bs, os, A', cap', rfl, hSs, hlts, hrng, hrep'⟩ := NodesIn.at_ (l := n.subs) (A := A) (cap := cap) (w := wr) (S := S) (hrep.frNo hF) hn'
        rw [Nat.mul_comm 8 j] at hrng
        have hd1 : decide (j < n.subs.length) = true := decide_eq_true (by omega)
        have hjL : (j : Int) < (n.subs.length : Int) := by omega
        have hdn := ndepths_get hn'
        have hle := stNs_take_le hn'
        have hsl := stN_le n'
        have Htk := hid (stNs_take hn')
        have Hj := hid hj
        have hcall := Hih.out n' (.agg (nodeA n' A' cap')) wr (by omega) (by omega) ⟨A', cap', rfl, hrep'⟩
        have hw : wrap64 (((0 + stNs (n.subs.take j) : Nat) : Int) + (stN n' : Int)) = ((0 + stNs (n.subs.take j) : Nat) : Int) + (stN n' : Int) := by unfold wrap64; omega
        have hsum : ((0 + stNs (n.subs.take j) : Nat) : Int) + (stN n' : Int) = ((0 + stNs (n.subs.take (j + 1)) : Nat) : Int) := by rw [Htk.out]; omega
        clear hn' hj hdn h70
        generalize hT : ((0 + stNs (n.subs.take j) : Nat) : Int) = T at *
        generalize hT2 : ((0 + stNs (n.subs.take (j + 1)) : Nat) : Int) = T2 at *
        go_wp2_with (first | ((with_reducible refine at_load _ ?_); refine wpList_load_rng (cs := nodeA n' A' cap') rfl rfl rfl hrng Try.underlying37 rfl infoNode ?_) | (go_at_call 17; refine hcall.mono ?_; rintro e w2 ⟨rfl, hf2⟩))
        go_roundg g
        case measure => omega
        case rel => exact ⟨j + 1, by have := Hj.out; omega, (by first | rfl | exact wrap_succ (by have := Hj.out; have := maxLen_eq; omega)), by rw [hT2, ← hsum], hF.no hf2⟩
theorem rstates_c (S : Nat → Prop) : ∀ (k : Nat) (n : Nd) (v : Value) (w : World), n.depth ≤ k → n.count < 2147483648 → NodeIn w S v n → Calls Try.prog 17 #[v] w fun e w' => e = .returned (.int .i64 (stN n)) ∧ Fr No w w'
  | 0, n, v, w, hk, _, _ => by have := n.depth_eq; omega
  | k + 1, n, v, w, hk, hc, hn => rstates_s k n v S w hk hc hn (hid fun n v w => rstates_c S k n v w)
end Go.Proofs.Ytldmdlkjpdfonaa
