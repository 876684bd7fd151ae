/- The walks of expand.IsPlain. Plain: which expressions are plain ones. -/
import Derived.Test.YtldmdlkjpdfonaaNode
import Derived.Test.YtldmdlkjpdfonaaMax
import Derived.Test.YtldmdlkjpdfonaaNm6
namespace Go.Proofs.Ytldmdlkjpdfonaa
set_option linter.unusedVariables false
set_option linter.unusedSimpArgs false
open Go Go.RowKit

def noneN (n : Nd) : Bool := wd n.set 0 == 0 && wd n.set 1 == 0 && wd n.set 2 == 0 && wd n.set 3 == 0
/-- Is the head a plain one's? -/
def bareN (n : Nd) : Bool :=
  if n.kind = 1 then noneN n && (n.mn == 0 && n.mx == 0) && n.subs.length == 0
  else if n.kind = 2 then (n.mn == 0 && n.mx == 0) && n.subs.length == 0
  else if n.kind = 3 ∨ n.kind = 4 then noneN n && (n.mn == 0 && n.mx == 0) && decide (2 ≤ n.subs.length)
  else if n.kind = 5 then noneN n && n.mn == 0 && n.mx == -1 && n.subs.length == 1
  else false
set_option maxRecDepth 100000 in
set_option maxHeartbeats 8000000 in
theorem bare_c (n : Nd) (A : Option Addr) (cap blk off : Nat) (w : World) (hn : w.rangeAt blk off (nodeA n A cap).toList) :
    Calls Try.prog 48 #[.pointer (some ⟨blk, off, none⟩)] w fun e w' => e = .returned (.bool (bareN n)) ∧ w' = w := by
  have hset := node_set hn
  have h0 := node_kind hn
  have h7 := node_subs hn
  have h5 : w.cell? ⟨blk, off + 5, none⟩ = some (.int .i64 n.mn) := hn 5 _ rfl
  have h6 : w.cell? ⟨blk, off + 6, none⟩ = some (.int .i64 n.mx) := hn 6 _ rfl
  have hse := fun W : World => eq_set (wd n.set 0) (wd n.set 1) (wd n.set 2) (wd n.set 3) 0 0 0 0 W
  obtain ⟨t, htt⟩ : ∃ t, noneN n = t := ⟨_, rfl⟩
  have ht := htt
  unfold noneN at ht
  rw [ht] at hse
  have Ht := hid htt
  clear htt ht hn
  go_enter Try.func48, Try.ntmps48
  go_wp2_with ((with_reducible refine at_load _ ?_); refine wpList_load_rng (ty := 35) (cs := setA n.set) rfl rfl rfl hset Try.underlying35 rfl infoSet ?_; unfold setA)
  all_goals
    go_ret
    refine ⟨congrArg (fun x => Ending.returned (Value.bool x)) ?_, rfl⟩
    clear h0 h7 h5 h6 hset hse
    unfold bareN
    rw [Ht.out]
    first | rfl | (simp_all; done) | (simp_all; omega) | (simp_all; rw [Bool.eq_iff_iff]; simp; done) | (simp_all; rw [Bool.eq_iff_iff]; simp; omega)
mutual
/-- A plain expression. -/
def isPlain : Nd → Bool
  | .mk k s mn mx l => bareN (.mk k s mn mx l) && allPlain l
def allPlain : List Nd → Bool
  | [] => true
  | a :: l => isPlain a && allPlain l
end
theorem isPlain_eq (n : Nd) : isPlain n = (bareN n && allPlain n.subs) := by cases n; rfl
theorem allPlain_drop {l : List Nd} {j : Nat} {a : Nd} (h : l[j]? = some a) : allPlain (l.drop j) = (isPlain a && allPlain (l.drop (j + 1))) := by
  obtain ⟨h1, rfl⟩ := List.getElem?_eq_some_iff.1 h
  rw [List.drop_eq_getElem_cons h1]
  rfl
set_option maxRecDepth 100000 in
set_option maxHeartbeats 4000000 in
theorem index_e (l : List Nd) (A : Option Addr) (cap : Nat) (S : Nat → Prop) (w : World) (hl : NodesIn w S (.slice A l.length cap) l)
    (Hf : Hid (∀ n v w, n ∈ l → NodeIn w S v n → Calls Try.prog 49 #[v] w fun r w' => r = .returned (.bool (!isPlain n)) ∧ Fr No w w')) :
    Calls Try.prog 47 #[.slice A l.length cap, .func (.func 49) #[] #[]] w fun r w' => (∃ z : Int, r = .returned (.int .i64 z) ∧ decide (0 ≤ z) = !allPlain l) ∧ Fr No w w' := by
  have hcap : l.length ≤ cap ∧ cap ≤ maxLen := by
    obtain ⟨A2, c2, heq, h1, h2⟩ := hl.sl_inv
    injection heq with e1 e2 e3
    omega
  go_enter Try.func47, Try.ntmps47
  go_wp2_with fail
  go_loopg [8] l.length (fun g i wr => ∃ j : Nat, j + g = l.length ∧ i = .int .i64 j ∧ allPlain (l.drop j) = allPlain l ∧ NodesIn wr S (.slice A l.length cap) l ∧ Fr No w wr)
  case atStart => exact ⟨0, by omega, rfl, rfl, hl, Fr.refl _ _⟩
  case round =>
    obtain ⟨j, hj, rfl, hd, hlr, hF⟩ := hrel
    cases gk with
    | zero =>
      have hd1 : decide (j < l.length) = false := decide_eq_false (by omega)
      have hge : l.length ≤ j := by omega
      have hall : allPlain l = true := by rw [← hd, List.drop_eq_nil_of_le hge]; rfl
      go_wp2_with fail
      go_ret
      exact ⟨⟨-1, rfl, by rw [hall]; rfl⟩, hF⟩
    | succ g =>
      obtain ⟨n', hn'⟩ : ∃ n', l[j]? = some n' := ⟨_, List.getElem?_eq_getElem (by omega)⟩
      have hmem := List.mem_of_getElem? hn'
      obtain ⟨b, off, A', cap', rfl, hSb, hltb, hrng, hrep'⟩ := NodesIn.at_ hlr hn'
      rw [Nat.mul_comm 8 j] at hrng
      have hdr := allPlain_drop hn'
      rw [hd] at hdr
      have hd1 : decide (j < l.length) = true := decide_eq_true (by omega)
      have hjL : (j : Int) < (l.length : Int) := by omega
      have hcall := Hf.out n' (.agg (nodeA n' A' cap')) wr hmem ⟨A', cap', rfl, hrep'⟩
      have Hj := hid hj
      have Hdr := hid hdr
      have Hd := hid hd
      clear hj hdr hn' hmem hd hl
      generalize hip : isPlain n' = ip at *
      cases ip with
      | false =>
        go_wp2_with (first | ((with_reducible refine at_load _ ?_); refine wpList_load_rng (cs := nodeA n' A' cap') rfl rfl rfl hrng Try.underlying37 rfl infoNode ?_) |
          (go_at_call 49; refine hcall.mono ?_; rintro e w2 ⟨rfl, hf2⟩))
        go_ret
        exact ⟨⟨j, rfl, by rw [Hdr.out]; simp⟩, hF.no hf2⟩
      | true =>
        go_wp2_with (first | ((with_reducible refine at_load _ ?_); refine wpList_load_rng (cs := nodeA n' A' cap') rfl rfl rfl hrng Try.underlying37 rfl infoNode ?_) |
          (go_at_call 49; refine hcall.mono ?_; rintro e w2 ⟨rfl, hf2⟩))
        go_roundg g
        case measure => omega
        case rel => exact ⟨j + 1, by have := Hj.out; omega, (by first | rfl | exact wrap_succ (by have := Hj.out; have := maxLen_eq; omega)), by rw [Hdr.out]; simp, hlr.frNo hf2, hF.no hf2⟩
set_option maxRecDepth 100000 in
set_option maxHeartbeats 1600000 in
theorem contains_e (l : List Nd) (A : Option Addr) (cap : Nat) (S : Nat → Prop) (w : World) (hl : NodesIn w S (.slice A l.length cap) l)
    (Hf : Hid (∀ n v w, n ∈ l → NodeIn w S v n → Calls Try.prog 49 #[v] w fun r w' => r = .returned (.bool (!isPlain n)) ∧ Fr No w w')) :
    Calls Try.prog 34 #[.slice A l.length cap, .func (.func 49) #[] #[]] w fun r w' => r = .returned (.bool (!allPlain l)) ∧ Fr No w w' := by
  have hi := index_e l A cap S w hl Hf
  go_enter Try.func34, Try.ntmps34
  go_wp2_with (go_at_call 47; refine hi.mono ?_; rintro e w2 ⟨⟨z, rfl, hz⟩, hf2⟩)
  go_ret
  exact ⟨by rw [← hz]; rfl, hf2⟩
set_option maxRecDepth 100000 in
set_option maxHeartbeats 1600000 in
theorem isplain_s (k : Nat) (n : Nd) (v : Value) (S : Nat → Prop) (w : World) (hk : n.depth ≤ k + 1) (hn : NodeIn w S v n)
    (Hih : Hid (∀ (n : Nd) (v : Value) (w : World), n.depth ≤ k → NodeIn w S v n → Calls Try.prog 36 #[v] w fun r w' => r = .returned (.bool (isPlain n)) ∧ Fr No w w')) :
    Calls Try.prog 36 #[v] w fun r w' => r = .returned (.bool (isPlain n)) ∧ Fr No w w' := by
  obtain ⟨A, cap, rfl, hrep⟩ := hn
  have hB := Blk.new w 37 (nodeA n A cap)
  have hF : Fr No w _ := (Fr.refl No w).alloc (.cells (nodeA n A cap) 37)
  have hrng : (w.alloc (.cells (nodeA n A cap) 37)).rangeAt w.heap.size 0 (nodeA n A cap).toList := hB.range
  have hbare := bare_c n A cap w.heap.size 0 _ hrng
  have hdp := n.depth_eq
  have hone : Hid (∀ n' v w, n' ∈ n.subs → NodeIn w S v n' → Calls Try.prog 49 #[v] w fun r w' => r = .returned (.bool (!isPlain n')) ∧ Fr No w w') := hid (by
    intro n' v w' hm hn'
    obtain ⟨j, hj⟩ := List.mem_iff_getElem?.1 hm
    have hdn : n'.depth ≤ k := by have := ndepths_get hj; omega
    obtain ⟨A', cap', rfl, hr'⟩ := hn'
    have hB' := Blk.new w' 37 (nodeA n' A' cap')
    have hcall := Hih.out n' (.agg (nodeA n' A' cap')) _ hdn ⟨A', cap', rfl, hr'.alloc (.cells (nodeA n' A' cap') 37)⟩
    have hF' : Fr No w' _ := (Fr.refl No w').alloc (.cells (nodeA n' A' cap') 37)
    clear hdp hrng hB hbare
    go_enter Try.func49, Try.ntmps49
    go_wp2_with (first | ((with_reducible refine at_load _ ?_); refine wpList_load_blk (cs := nodeA n' A' cap') rfl rfl rfl hB' Try.underlying37 rfl infoNode ?_) |
      (go_at_call 36; refine hcall.mono ?_; rintro e w2 ⟨rfl, hf2⟩))
    go_ret
    exact ⟨rfl, hF'.no hf2⟩)
  have hcon := fun W (hW : Fr No w W) => contains_e n.subs A cap S W (hrep.frNo hW) hone
  have hpe := isPlain_eq n
  have h7 := node_subs hrng
  clear hrng hdp
  generalize hbn : bareN n = bn at *
  cases bn with
  | false =>
    go_enter Try.func36, Try.ntmps36
    go_wp2_with (go_at_call 48; refine hbare.mono ?_; rintro e w2 ⟨rfl, hw2⟩; replace hw2 := hw2.symm; subst hw2)
    go_ret
    exact ⟨by rw [hpe]; rfl, hF⟩
  | true =>
    have hcon1 := hcon _ hF
    generalize hap : allPlain n.subs = ap at *
    go_enter Try.func36, Try.ntmps36
    go_wp2_with (first | (go_at_call 48; refine hbare.mono ?_; rintro e w2 ⟨rfl, hw2⟩; replace hw2 := hw2.symm; subst hw2) |
      (go_at_call 34; refine hcon1.mono ?_; rintro e w2 ⟨rfl, hf2⟩))
    go_ret
    exact ⟨by rw [hpe]; simp, hF.no hf2⟩
theorem isplain_c (S : Nat → Prop) : ∀ (k : Nat) (n : Nd) (v : Value) (w : World), n.depth ≤ k → NodeIn w S v n → Calls Try.prog 36 #[v] w fun r w' => r = .returned (.bool (isPlain n)) ∧ Fr No w w'
  | 0, n, v, w, hk, _ => by have := n.depth_eq; omega
  | k + 1, n, v, w, hk, hn => isplain_s k n v S w hk hn (hid fun n v w => isplain_c S k n v w)
set_option maxRecDepth 100000 in
set_option maxHeartbeats 4000000 in
theorem index_n (l : List Nd) (A : Option Addr) (cap : Nat) (S : Nat → Prop) (w : World) (hl : NodesIn w S (.slice A l.length cap) l)
    (Hf : Hid (∀ n v w, n ∈ l → NodeIn w S v n → Calls Try.prog 35 #[v] w fun r w' => r = .returned (.bool (!isPlain n)) ∧ Fr No w w')) :
    Calls Try.prog 47 #[.slice A l.length cap, .func (.func 35) #[] #[]] w fun r w' => (∃ z : Int, r = .returned (.int .i64 z) ∧ decide (0 ≤ z) = !allPlain l) ∧ Fr No w w' := by
  have hcap : l.length ≤ cap ∧ cap ≤ maxLen := by
    obtain ⟨A2, c2, heq, h1, h2⟩ := hl.sl_inv
    injection heq with e1 e2 e3
    omega
  go_enter Try.func47, Try.ntmps47
  go_wp2_with fail
  go_loopg [8] l.length (fun g i wr => ∃ j : Nat, j + g = l.length ∧ i = .int .i64 j ∧ allPlain (l.drop j) = allPlain l ∧ NodesIn wr S (.slice A l.length cap) l ∧ Fr No w wr)
  case atStart => exact ⟨0, by omega, rfl, rfl, hl, Fr.refl _ _⟩
  case round =>
    obtain ⟨j, hj, rfl, hd, hlr, hF⟩ := hrel
    cases gk with
    | zero =>
      have hd1 : decide (j < l.length) = false := decide_eq_false (by omega)
      have hge : l.length ≤ j := by omega
      have hall : allPlain l = true := by rw [← hd, List.drop_eq_nil_of_le hge]; rfl
      go_wp2_with fail
      go_ret
      exact ⟨⟨-1, rfl, by rw [hall]; rfl⟩, hF⟩
    | succ g =>
      obtain ⟨n', hn'⟩ : ∃ n', l[j]? = some n' := ⟨_, List.getElem?_eq_getElem (by omega)⟩
      have hmem := List.mem_of_getElem? hn'
      obtain ⟨b, off, A', cap', rfl, hSb, hltb, hrng, hrep'⟩ := NodesIn.at_ hlr hn'
      rw [Nat.mul_comm 8 j] at hrng
      have hdr := allPlain_drop hn'
      rw [hd] at hdr
      have hd1 : decide (j < l.length) = true := decide_eq_true (by omega)
      have hjL : (j : Int) < (l.length : Int) := by omega
      have hcall := Hf.out n' (.agg (nodeA n' A' cap')) wr hmem ⟨A', cap', rfl, hrep'⟩
      have Hj := hid hj
      have Hdr := hid hdr
      have Hd := hid hd
      clear hj hdr hn' hmem hd hl
      generalize hip : isPlain n' = ip at *
      cases ip with
      | false =>
        go_wp2_with (first | ((with_reducible refine at_load _ ?_); refine wpList_load_rng (cs := nodeA n' A' cap') rfl rfl rfl hrng Try.underlying37 rfl infoNode ?_) |
          (go_at_call 35; refine hcall.mono ?_; rintro e w2 ⟨rfl, hf2⟩))
        go_ret
        exact ⟨⟨j, rfl, by rw [Hdr.out]; simp⟩, hF.no hf2⟩
      | true =>
        go_wp2_with (first | ((with_reducible refine at_load _ ?_); refine wpList_load_rng (cs := nodeA n' A' cap') rfl rfl rfl hrng Try.underlying37 rfl infoNode ?_) |
          (go_at_call 35; refine hcall.mono ?_; rintro e w2 ⟨rfl, hf2⟩))
        go_roundg g
        case measure => omega
        case rel => exact ⟨j + 1, by have := Hj.out; omega, (by first | rfl | exact wrap_succ (by have := Hj.out; have := maxLen_eq; omega)), by rw [Hdr.out]; simp, hlr.frNo hf2, hF.no hf2⟩
set_option maxRecDepth 100000 in
set_option maxHeartbeats 1600000 in
theorem contains_n (l : List Nd) (A : Option Addr) (cap : Nat) (S : Nat → Prop) (w : World) (hl : NodesIn w S (.slice A l.length cap) l)
    (Hf : Hid (∀ n v w, n ∈ l → NodeIn w S v n → Calls Try.prog 35 #[v] w fun r w' => r = .returned (.bool (!isPlain n)) ∧ Fr No w w')) :
    Calls Try.prog 34 #[.slice A l.length cap, .func (.func 35) #[] #[]] w fun r w' => r = .returned (.bool (!allPlain l)) ∧ Fr No w w' := by
  have hi := index_n l A cap S w hl Hf
  go_enter Try.func34, Try.ntmps34
  go_wp2_with (go_at_call 47; refine hi.mono ?_; rintro e w2 ⟨⟨z, rfl, hz⟩, hf2⟩)
  go_ret
  exact ⟨by rw [← hz]; rfl, hf2⟩
set_option maxRecDepth 100000 in
set_option maxHeartbeats 1600000 in
theorem build1_c (S : Nat → Prop) (n : Nd) (v : Value) (w : World) (hn : NodeIn w S v n) : Calls Try.prog 35 #[v] w fun r w' => r = .returned (.bool (!isPlain n)) ∧ Fr No w w' := by
  obtain ⟨A', cap', rfl, hr'⟩ := hn
  have hB' := Blk.new w 37 (nodeA n A' cap')
  have hcall := isplain_c S n.depth n (.agg (nodeA n A' cap')) _ (Nat.le_refl _) ⟨A', cap', rfl, hr'.alloc (.cells (nodeA n A' cap') 37)⟩
  have hF' : Fr No w _ := (Fr.refl No w).alloc (.cells (nodeA n A' cap') 37)
  go_enter Try.func35, Try.ntmps35
  go_wp2_with (first | ((with_reducible refine at_load _ ?_); refine wpList_load_blk (cs := nodeA n A' cap') rfl rfl rfl hB' Try.underlying37 rfl infoNode ?_) |
    (go_at_call 36; refine hcall.mono ?_; rintro e w2 ⟨rfl, hf2⟩))
  go_ret
  exact ⟨rfl, hF'.no hf2⟩
end Go.Proofs.Ytldmdlkjpdfonaa
