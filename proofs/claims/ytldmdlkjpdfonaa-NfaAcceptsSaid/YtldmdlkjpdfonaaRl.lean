/- The walks of sieveref14.May, Len, Few and the law's few. -/
import Derived.Test.YtldmdlkjpdfonaaRp
import Derived.Test.YtldmdlkjpdfonaaNs
import Derived.Test.YtldmdlkjpdfonaaRxS1
namespace Go.Proofs.Ytldmdlkjpdfonaa
set_option linter.unusedVariables false
set_option linter.unusedSimpArgs false
open Go Go.RowKit

mutual
theorem nsize_count : ∀ (n : Nd) (m : Int), nsize n m < m → (n.count : Int) = nsize n m
  | .mk _ _ _ _ l, m, h => by
    simp only [nsize] at h ⊢
    have := nsizes_count l 1 m (by omega) h
    simp only [Nd.count]
    omega
theorem nsizes_count : ∀ (l : List Nd) (t m : Int), 1 ≤ t → nsizes l t m < m → (ncounts l : Int) + t = nsizes l t m
  | [], t, m, _, h => by simp only [nsizes, ncounts]; omega
  | a :: l, t, m, ht, h => by
    simp only [nsizes] at h ⊢
    split at h
    · rename_i hlt
      rw [if_pos hlt]
      have hb := nsize_bd a (m - t)
      have h2 := nsizes_count l (t + nsize a (m - t)) m (by omega) h
      have hm := (nsizes_bd l (t + nsize a (m - t)) m (by omega) (by omega)).1
      have h1 := nsize_count a (m - t) (by omega)
      simp only [ncounts]
      omega
    · omega
end
theorem few_count {n : Nd} (h : nsize n 601 ≤ 200) : n.count ≤ 200 := by
  have := nsize_count n 601 (by omega)
  omega
def fewN (n : Nd) : Bool := decide (nsize n 601 ≤ 200)
def allFew : List Nd → Bool
  | [] => true
  | a :: l => fewN a && allFew l
/-- May they be gone over? -/
def fewL (l : List Nd) : Bool := allFew l && (decide (l.length ≤ 20) && decide (stNs l ≤ 300))
theorem allFew_drop {l : List Nd} {j : Nat} {a : Nd} (h : l[j]? = some a) : allFew (l.drop j) = (fewN a && allFew (l.drop (j + 1))) := by
  obtain ⟨h1, rfl⟩ := List.getElem?_eq_some_iff.1 h
  rw [List.drop_eq_getElem_cons h1]
  rfl
theorem allFew_get : ∀ {l : List Nd} {j : Nat} {a : Nd}, l[j]? = some a → allFew l = true → a.count ≤ 200
  | [], _, _, h, _ => by simp at h
  | x :: l, 0, a, h, hk => by
    simp at h; subst h
    unfold allFew at hk
    have := (Bool.and_eq_true _ _ ▸ hk).1
    exact few_count (by simpa [fewN] using this)
  | x :: l, j + 1, a, h, hk => by unfold allFew at hk; exact allFew_get (by simpa using h) (Bool.and_eq_true _ _ ▸ hk).2
theorem allFew_counts : ∀ (l : List Nd), allFew l = true → ncounts l ≤ 200 * l.length
  | [], _ => Nat.le_refl _
  | x :: l, hk => by
    have h0 := allFew_get (l := x :: l) (j := 0) rfl hk
    unfold allFew at hk
    have := allFew_counts l (Bool.and_eq_true _ _ ▸ hk).2
    simp only [ncounts, List.length_cons]
    omega
def mayL (l : List Nd) : Bool := allPlain l && (decide (1 ≤ l.length) && decide (l.length ≤ 8))
theorem wrap_wrap (a b : Int) : wrap64 (wrap64 a + b) = wrap64 (a + b) := by unfold wrap64; omega
section
variable (l : List Nd) (A : Option Addr) (cap : Nat) (S : Nat → Prop) (w : World)
set_option maxRecDepth 100000 in
set_option maxHeartbeats 4000000 in
theorem may_c (hl : NodesIn w S (.slice A l.length cap) l) : Calls Try.prog 10 #[.slice A l.length cap] w fun r w' => r = .returned (.bool (mayL l)) ∧ Fr No w w' := by
  have hcap : l.length ≤ cap ∧ cap ≤ maxLen := by
    obtain ⟨A2, c2, heq, h1, h2⟩ := hl.sl_inv
    injection heq with e1 e2 e3
    omega
  go_enter Try.func10, Try.ntmps10
  go_wp2_with fail
  go_loopg [3] l.length (fun g i wr => ∃ j : Nat, j + g = l.length ∧ i = .int .i64 j ∧ allPlain (l.drop j) = allPlain l ∧ NodesIn wr S (.slice A l.length cap) l ∧ Fr No w wr)
  case atStart => exact ⟨0, by omega, rfl, rfl, hl, Fr.refl _ _⟩
  case round =>
    obtain ⟨j, hj, rfl, hd, hlr, hF⟩ := hrel
    cases gk with
    | zero =>
      have hd1 : decide (j < l.length) = false := decide_eq_false (by omega)
      have hge : l.length ≤ j := by omega
      have hall : allPlain l = true := by rw [← hd, List.drop_eq_nil_of_le hge]; rfl
      have Hm : Hid (mayL l = (decide (1 ≤ l.length) && decide (l.length ≤ 8))) := hid (by unfold mayL; rw [hall]; rfl)
      clear hd hall hj hge
      by_cases h1 : 1 ≤ l.length
      · have hd2 : decide (1 ≤ l.length) = true := decide_eq_true h1
        have hd3 : decide ((1 : Int) ≤ (l.length : Int)) = true := decide_eq_true (by omega)
        go_wp2_with fail
        go_ret
        refine ⟨?_, hF⟩
        rw [Hm.out, hd2, Bool.true_and]
        refine congrArg (fun x => Ending.returned (Value.bool x)) ?_
        rw [Bool.eq_iff_iff]; simp; omega
      · have hd2 : decide (1 ≤ l.length) = false := decide_eq_false h1
        have hd3 : decide ((1 : Int) ≤ (l.length : Int)) = false := decide_eq_false (by omega)
        go_wp2_with fail
        go_ret
        refine ⟨?_, hF⟩
        rw [Hm.out, hd2]
        rfl
    | succ g =>
      obtain ⟨n', hn'⟩ : ∃ n', l[j]? = some n' := ⟨_, List.getElem?_eq_getElem (by omega)⟩
      obtain ⟨b, off, A', cap', rfl, hSb, hltb, hrng, hrep'⟩ := NodesIn.at_ hlr hn'
      rw [Nat.mul_comm 8 j] at hrng
      have hdr := allPlain_drop hn'
      rw [hd] at hdr
      have hd1 : decide (j < l.length) = true := decide_eq_true (by omega)
      have hjL : (j : Int) < (l.length : Int) := by omega
      have hcall := rplain_c S n'.depth n' (.agg (nodeA n' A' cap')) wr (Nat.le_refl _) ⟨A', cap', rfl, hrep'⟩
      have Hj := hid hj
      have Hdr := hid hdr
      clear hj hdr hn' hd hl
      generalize hip : isPlain n' = ip at *
      cases ip with
      | false =>
        go_wp2_with (first | ((with_reducible refine at_load _ ?_); refine wpList_load_rng (cs := nodeA n' A' cap') rfl rfl rfl hrng Try.underlying37 rfl infoNode ?_) |
          (go_at_call 15; refine hcall.mono ?_; rintro e w2 ⟨rfl, hf2⟩))
        go_ret
        refine ⟨?_, hF.no hf2⟩
        unfold mayL
        rw [Hdr.out]; simp
      | true =>
        go_wp2_with (first | ((with_reducible refine at_load _ ?_); refine wpList_load_rng (cs := nodeA n' A' cap') rfl rfl rfl hrng Try.underlying37 rfl infoNode ?_) |
          (go_at_call 15; refine hcall.mono ?_; rintro e w2 ⟨rfl, hf2⟩))
        go_roundg g
        case measure => omega
        case rel => exact ⟨j + 1, by have := Hj.out; omega, (by first | rfl | exact wrap_succ (by have := Hj.out; have := maxLen_eq; omega)), by rw [Hdr.out]; simp, hlr.frNo hf2, hF.no hf2⟩
set_option maxRecDepth 100000 in
set_option maxHeartbeats 4000000 in
theorem rlen_c (hl : NodesIn w S (.slice A l.length cap) l) (hf : allFew l = true) (h20 : l.length ≤ 20) : Calls Try.prog 29 #[.slice A l.length cap] w fun r w' => r = .returned (.int .i64 ((1 + l.length + stNs l : Nat) : Int)) ∧ Fr No w w' := by
  have hct := allFew_counts l hf
  go_enter Try.func29, Try.ntmps29
  go_wp2_with fail
  go_loopg [3, 4] l.length (fun g t i wr => ∃ j : Nat, j + g = l.length ∧ i = .int .i64 j ∧ t = .int .i64 ((1 + j + stNs (l.take j) : Nat) : Int) ∧ NodesIn wr S (.slice A l.length cap) l ∧ Fr No w wr)
  case atStart => exact ⟨0, by omega, rfl, rfl, hl, Fr.refl _ _⟩
  case round =>
    obtain ⟨j, hj, rfl, rfl, hlr, hF⟩ := hrel
    cases gk with
    | zero =>
      have hd1 : decide (j < l.length) = false := decide_eq_false (by omega)
      obtain rfl : j = l.length := by omega
      rw [List.take_length]
      go_wp2_with fail
      go_ret
      exact ⟨rfl, hF⟩
    | succ g =>
      obtain ⟨n', hn'⟩ : ∃ n', l[j]? = some n' := ⟨_, List.getElem?_eq_getElem (by omega)⟩
      obtain ⟨b, off, A', cap', rfl, hSb, hltb, hrng, hrep'⟩ := NodesIn.at_ hlr hn'
      rw [Nat.mul_comm 8 j] at hrng
      have hd1 : decide (j < l.length) = true := decide_eq_true (by omega)
      have hjL : (j : Int) < (l.length : Int) := by omega
      have hcn := allFew_get hn' hf
      have hle := stNs_take_le hn'
      have hsl := stN_le n'
      have Htk := hid (stNs_take hn')
      have hcall := rstates_c S n'.depth n' (.agg (nodeA n' A' cap')) wr (Nat.le_refl _) (by omega) ⟨A', cap', rfl, hrep'⟩
      have hw1 : wrap64 (1 + (stN n' : Int)) = 1 + (stN n' : Int) := by unfold wrap64; omega
      have hw2 : wrap64 (((1 + j + stNs (l.take j) : Nat) : Int) + (1 + (stN n' : Int))) = ((1 + j + stNs (l.take j) : Nat) : Int) + (1 + (stN n' : Int)) := by unfold wrap64; omega
      have hsum : ((1 + j + stNs (l.take j) : Nat) : Int) + (1 + (stN n' : Int)) = ((1 + (j + 1) + stNs (l.take (j + 1)) : Nat) : Int) := by rw [Htk.out]; omega
      have Hj := hid hj
      clear hj hn' hl
      generalize hT : ((1 + j + stNs (l.take j) : Nat) : Int) = T at *
      generalize hT2 : ((1 + (j + 1) + stNs (l.take (j + 1)) : Nat) : Int) = T2 at *
      go_wp2_with (first | ((with_reducible refine at_load _ ?_); refine wpList_load_rng (cs := nodeA n' A' cap') rfl rfl rfl hrng Try.underlying37 rfl infoNode ?_) |
        (go_at_call 17; refine hcall.mono ?_; rintro e w2 ⟨rfl, hf2⟩))
      go_roundg g
      case measure => omega
      case rel => exact ⟨j + 1, by have := Hj.out; omega, (by first | rfl | exact wrap_succ (by have := Hj.out; omega)), by rw [hT2, ← hsum], hlr.frNo hf2, hF.no hf2⟩
set_option maxRecDepth 100000 in
set_option maxHeartbeats 4000000 in
theorem rfew_c (hl : NodesIn w S (.slice A l.length cap) l) (hf : allFew l = true) : Calls Try.prog 33 #[.slice A l.length cap] w fun r w' => r = .returned (.bool (decide (l.length ≤ 20) && decide (stNs l ≤ 300))) ∧ Fr No w w' := by
  have hct := allFew_counts l hf
  have hcap : l.length ≤ cap ∧ cap ≤ maxLen := by
    obtain ⟨A2, c2, heq, h1, h2⟩ := hl.sl_inv
    injection heq with e1 e2 e3
    omega
  go_enter Try.func33, Try.ntmps33
  go_wp2_with fail
  go_loopg [3, 4] l.length (fun g t i wr => ∃ j : Nat, j + g = l.length ∧ i = .int .i64 j ∧ t = .int .i64 (wrap64 (stNs (l.take j) : Int)) ∧ NodesIn wr S (.slice A l.length cap) l ∧ Fr No w wr)
  case atStart => exact ⟨0, by omega, rfl, by rw [List.take_zero]; simp [stNs, wrap64], hl, Fr.refl _ _⟩
  case round =>
    obtain ⟨j, hj, rfl, rfl, hlr, hF⟩ := hrel
    cases gk with
    | zero =>
      have hd1 : decide (j < l.length) = false := decide_eq_false (by omega)
      obtain rfl : j = l.length := by omega
      rw [List.take_length]
      have hsl := stNs_le l
      by_cases h20 : l.length ≤ 20
      · have hd2 : decide (l.length ≤ 20) = true := decide_eq_true h20
        have hd3 : decide ((l.length : Int) ≤ 20) = true := decide_eq_true (by omega)
        have hw : wrap64 (stNs l : Int) = (stNs l : Int) := by unfold wrap64; omega
        rw [hw]
        go_wp2_with fail
        go_ret
        refine ⟨?_, hF⟩
        rw [hd2, Bool.true_and]
        refine congrArg (fun x => Ending.returned (Value.bool x)) ?_
        rw [Bool.eq_iff_iff]; simp; omega
      · have hd2 : decide (l.length ≤ 20) = false := decide_eq_false h20
        have hd3 : decide ((l.length : Int) ≤ 20) = false := decide_eq_false (by omega)
        generalize wrap64 (stNs l : Int) = z
        go_wp2_with fail
        go_ret
        refine ⟨?_, hF⟩
        rw [hd2]
        rfl
    | succ g =>
      obtain ⟨n', hn'⟩ : ∃ n', l[j]? = some n' := ⟨_, List.getElem?_eq_getElem (by omega)⟩
      obtain ⟨b, off, A', cap', rfl, hSb, hltb, hrng, hrep'⟩ := NodesIn.at_ hlr hn'
      rw [Nat.mul_comm 8 j] at hrng
      have hd1 : decide (j < l.length) = true := decide_eq_true (by omega)
      have hjL : (j : Int) < (l.length : Int) := by omega
      have hcn := allFew_get hn' hf
      have hcall := rstates_c S n'.depth n' (.agg (nodeA n' A' cap')) wr (Nat.le_refl _) (by omega) ⟨A', cap', rfl, hrep'⟩
      have Hsum : Hid (wrap64 (wrap64 (stNs (l.take j) : Int) + (stN n' : Int)) = wrap64 (stNs (l.take (j + 1)) : Int)) := hid (by rw [wrap_wrap, stNs_take hn']; congr 1)
      have Hj := hid hj
      clear hj hn' hl
      generalize hT : wrap64 (stNs (l.take j) : Int) = T at *
      generalize hT2 : wrap64 (stNs (l.take (j + 1)) : Int) = T2 at *
      generalize hN : (stN n' : Int) = N at *
      clear hT hN
      go_wp2_with (first | ((with_reducible refine at_load _ ?_); refine wpList_load_rng (cs := nodeA n' A' cap') rfl rfl rfl hrng Try.underlying37 rfl infoNode ?_) |
        (go_at_call 17; refine hcall.mono ?_; rintro e w2 ⟨rfl, hf2⟩))
      go_roundg g
      case measure => omega
      case rel => exact ⟨j + 1, by have := Hj.out; omega, (by first | rfl | exact wrap_succ (by have := Hj.out; have := maxLen_eq; omega)), by rw [hT2, ← Hsum.out], hlr.frNo hf2, hF.no hf2⟩
set_option maxRecDepth 100000 in
set_option maxHeartbeats 4000000 in
theorem lfew_c (hl : NodesIn w S (.slice A l.length cap) l) : Calls Try.prog 9 #[.slice A l.length cap] w fun r w' => r = .returned (.bool (fewL l)) ∧ Fr No w w' := by
  have hcap : l.length ≤ cap ∧ cap ≤ maxLen := by
    obtain ⟨A2, c2, heq, h1, h2⟩ := hl.sl_inv
    injection heq with e1 e2 e3
    omega
  go_enter Try.func9, Try.ntmps9
  go_wp2_with fail
  go_loopg [7] l.length (fun g i wr => ∃ j : Nat, j + g = l.length ∧ i = .int .i64 j ∧ allFew (l.drop j) = allFew l ∧ NodesIn wr S (.slice A l.length cap) l ∧ Fr No w wr)
  case atStart => exact ⟨0, by omega, rfl, rfl, hl, Fr.refl _ _⟩
  case round =>
    obtain ⟨j, hj, rfl, hd, hlr, hF⟩ := hrel
    cases gk with
    | zero =>
      have hd1 : decide (j < l.length) = false := decide_eq_false (by omega)
      have hge : l.length ≤ j := by omega
      have hall : allFew l = true := by rw [← hd, List.drop_eq_nil_of_le hge]; rfl
      have hfw := rfew_c l A cap S wr hlr hall
      go_wp2_with (go_at_call 33; refine hfw.mono ?_; rintro e w2 ⟨rfl, hf2⟩)
      go_ret
      refine ⟨?_, hF.no hf2⟩
      unfold fewL
      rw [hall]; rfl
    | succ g =>
      obtain ⟨n', hn'⟩ : ∃ n', l[j]? = some n' := ⟨_, List.getElem?_eq_getElem (by omega)⟩
      obtain ⟨b, off, A', cap', rfl, hSb, hltb, hrng, hrep'⟩ := NodesIn.at_ hlr hn'
      rw [Nat.mul_comm 8 j] at hrng
      have hdr := allFew_drop hn'
      rw [hd] at hdr
      have hd1 : decide (j < l.length) = true := decide_eq_true (by omega)
      have hjL : (j : Int) < (l.length : Int) := by omega
      have hfN : fewN n' = decide (nsize n' 601 ≤ 200) := rfl
      have hcall := fun W (hW : Fr No wr W) => few_c n' (.agg (nodeA n' A' cap')) S W ⟨A', cap', rfl, hrep'.frNo hW⟩
      rw [← hfN] at hcall
      have Hj := hid hj
      have Hdr := hid hdr
      clear hj hdr hn' hd hl hfN
      have hz : Fr No wr _ := (Fr.refl No wr).alloc (.cells #[.int .i64 0, .int .u64 0, .int .u64 0, .int .u64 0, .int .u64 0, .int .i64 0, .int .i64 0, .slice none 0 0] 37)
      generalize hip : fewN n' = ip at *
      cases ip with
      | false =>
        go_wp2_with (first | ((with_reducible refine at_load _ ?_); refine wpList_load_rng (cs := nodeA n' A' cap') rfl rfl rfl hrng Try.underlying37 rfl infoNode ?_) |
          ((with_reducible refine at_store _ ?_); refine wpList_store_blk (cs := nodeA n' A' cap') rfl rfl rfl rfl (Blk.new wr 37 #[.int .i64 0, .int .u64 0, .int .u64 0, .int .u64 0, .int .u64 0, .int .i64 0, .int .i64 0, .slice none 0 0]) rfl infoNode (nodeA_one _ _ _) ?_; intro W hW hfW _; have hFW := hz.callAt hfW (Nat.le_refl _)) |
          ((with_reducible refine at_load _ ?_); refine wpList_load_blk (cs := nodeA n' A' cap') rfl rfl rfl hW Try.underlying37 rfl infoNode ?_) |
          (go_at_call 32; refine (hcall _ hFW).mono ?_; rintro e w2 ⟨rfl, hf2⟩))
        go_ret
        refine ⟨?_, (hF.no hFW).no hf2⟩
        unfold fewL
        rw [Hdr.out]; simp
      | true =>
        go_wp2_with (first | ((with_reducible refine at_load _ ?_); refine wpList_load_rng (cs := nodeA n' A' cap') rfl rfl rfl hrng Try.underlying37 rfl infoNode ?_) |
          ((with_reducible refine at_store _ ?_); refine wpList_store_blk (cs := nodeA n' A' cap') rfl rfl rfl rfl (Blk.new wr 37 #[.int .i64 0, .int .u64 0, .int .u64 0, .int .u64 0, .int .u64 0, .int .i64 0, .int .i64 0, .slice none 0 0]) rfl infoNode (nodeA_one _ _ _) ?_; intro W hW hfW _; have hFW := hz.callAt hfW (Nat.le_refl _)) |
          ((with_reducible refine at_load _ ?_); refine wpList_load_blk (cs := nodeA n' A' cap') rfl rfl rfl hW Try.underlying37 rfl infoNode ?_) |
          (go_at_call 32; refine (hcall _ hFW).mono ?_; rintro e w2 ⟨rfl, hf2⟩))
        go_roundg g
        case measure => omega
        case rel => exact ⟨j + 1, by have := Hj.out; omega, (by first | rfl | exact wrap_succ (by have := Hj.out; have := maxLen_eq; omega)), by rw [Hdr.out]; simp, (hlr.frNo hFW).frNo hf2, (hF.no hFW).no hf2⟩
end
end Go.Proofs.Ytldmdlkjpdfonaa
