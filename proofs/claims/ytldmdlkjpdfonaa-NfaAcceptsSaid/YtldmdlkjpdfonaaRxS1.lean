/- The walks of sieveref07.size, Size, Few: how many parts an expression has, counted up to a bound. -/
import Derived.Test.YtldmdlkjpdfonaaNode
import Derived.Test.YtldmdlkjpdfonaaMax
import Derived.Test.YtldmdlkjpdfonaaNd2
namespace Go.Proofs.Ytldmdlkjpdfonaa
set_option linter.unusedVariables false
set_option linter.unusedSimpArgs false
open Go Go.RowKit

set_option maxRecDepth 100000 in
set_option maxHeartbeats 4000000 in
theorem size_s (n : Nd) (m : Int) (v : Value) (S : Nat → Prop) (w : World) (hm0 : 0 ≤ m) (hm : m ≤ 601) (hn : NodeIn w S v n)
    (Hih : Hid (∀ (n' : Nd) (m' : Int) (v' : Value) (w' : World), 0 ≤ m' → m' < m → NodeIn w' S v' n' → Calls Try.prog 61 #[v', .int .i64 m'] w' fun e w2 => e = .returned (.int .i64 (nsize n' m')) ∧ Fr No w' w2)) :
    Calls Try.prog 61 #[v, .int .i64 m] w fun e w' => e = .returned (.int .i64 (nsize n m)) ∧ Fr No w w' := by
  obtain ⟨A, cap, rfl, hrep⟩ := hn
  have hcap : n.subs.length ≤ cap ∧ cap ≤ maxLen := by
    obtain ⟨A2, c2, heq, h1, h2⟩ := hrep.sl_inv
    injection heq with e1 e2 e3
    omega
  have hB0 := Blk.new w 37 (nodeA n A cap)
  have hF0 : Fr No w _ := (Fr.refl No w).alloc (.cells (nodeA n A cap) 37)
  have hrep0 := hrep.alloc (.cells (nodeA n A cap) 37)
  have hse := nsize_eq n m
  generalize hR : nsize n m = res at *
  have Hse := hid hse
  clear hse hR
  unfold nodeA at *
  generalize hL : n.subs.length = L at *
  have HL := hid hL
  clear hL
  go_enter Try.func61, Try.ntmps61
  go_wp2_with fail
  go_loopg [5, 6] L (fun g t i wr => ∃ (j : Nat) (x : Int), j + g = L ∧ i = .int .i64 j ∧ t = .int .i64 x ∧ 1 ≤ x ∧ x ≤ max 1 m ∧ Aside (nsizes (n.subs.drop j) x m = res) ∧ Blk wr w.heap.size 37 #[.int .i64 n.kind, .int .u64 (wd n.set 0), .int .u64 (wd n.set 1), .int .u64 (wd n.set 2), .int .u64 (wd n.set 3), .int .i64 n.mn, .int .i64 n.mx, .slice A L cap] ∧ Rep wr S (.slice A L cap) (.sl 37 L (encNs n.subs)) ∧ Fr No w wr)
  case atStart => exact ⟨0, 1, by omega, rfl, rfl, by omega, by omega, hid Hse.out.symm, hB0, hrep0, hF0⟩
  case round =>
    obtain ⟨j, x, hj, rfl, rfl, hx1, hxm, HA, hBR, hrepR, hFR⟩ := hrel
    clear hB0 hF0 hrep0 hrep
    have hz7 := hBR.cell 7
    have hy7 := hBR.frozen 7
    cases gk with
    | zero =>
      have hd : decide (j < L) = false := decide_eq_false (by omega)
      have hge : L ≤ j := by omega
      have he : x = res := by
        have h1 := HA.out
        rw [List.drop_eq_nil_of_le (by rw [HL.out]; omega)] at h1
        exact h1
      have He := hid he
      clear he hj HA
      go_wp2_with fail
      go_ret
      exact ⟨by rw [← He.out]; rfl, hFR⟩
    | succ g =>
      have hd : decide (j < L) = true := decide_eq_true (by omega)
      have hjL : (j : Int) < (L : Int) := by omega
      obtain ⟨n', hn'⟩ : ∃ n', n.subs[j]? = some n' := ⟨_, List.getElem?_eq_getElem (by rw [HL.out]; omega)⟩
      have hdr := nsizes_drop hn' x m
      by_cases hxlt : x < m
      · rw [if_pos hxlt] at hdr
        have hd2 : decide (x < m) = true := decide_eq_true hxlt
        obtain ⟨b, off, A', cap', rfl, hSb, hltb, hrng, hrep'⟩ := NodesIn.at_ (l := n.subs) (A := A) (cap := cap) (w := wr) (S := S) (by show Rep _ _ _ (.sl _ n.subs.length _); rw [HL.out]; exact hrepR) hn'
        rw [Nat.mul_comm 8 j] at hrng
        generalize hpa : off + j * 8 = pa at hrng
        have hbd := nsize_bd n' (m - x)
        have hA2 := HA.out
        rw [hdr] at hA2
        have HA2 := hid hA2
        have Hj := hid hj
        have hsub : wrap64 (m - x) = m - x := by unfold wrap64; omega
        have Hbd := hid hbd
        clear hj hA2 hdr hn' hbd
        go_wp2_with (first | ((with_reducible refine at_load _ ?_); refine wpList_load_rng (cs := nodeA n' A' cap') rfl rfl rfl hrng Try.underlying37 rfl infoNode ?_) |
          (go_at_call 61; refine (Hih.out n' (m - x) _ _ (by omega) (by omega) ⟨A', cap', rfl, hrep'⟩).mono ?_; rintro e w2 ⟨rfl, hf2⟩))
        go_roundg g
        case measure => omega
        case rel =>
          have hb1 := Hbd.out.1
          have hb2 := Hbd.out.2
          have hj1 : j + 1 + g = L := by have := Hj.out; omega
          have hjm : wrap64 ((j : Int) + 1) = ((j + 1 : Nat) : Int) := by
            have hmx := maxLen_eq
            unfold wrap64; omega
          have hxs : wrap64 (x + nsize n' (m - x)) = x + nsize n' (m - x) := by unfold wrap64; omega
          exact ⟨j + 1, x + nsize n' (m - x), hj1, by rw [hjm], by rw [hxs], by omega, by omega, HA2, hf2.blk hBR id, hrepR.frNo hf2, hFR.no hf2⟩
      · rw [if_neg hxlt] at hdr
        have hd2 : decide (x < m) = false := decide_eq_false hxlt
        have he : x = res := by rw [← HA.out, hdr]
        have He := hid he
        clear he hj HA hdr hn'
        go_wp2_with fail
        go_ret
        exact ⟨by rw [← He.out]; rfl, hFR⟩

theorem size_c (S : Nat → Prop) : ∀ (k : Nat) (n : Nd) (m : Int) (v : Value) (w : World), 0 ≤ m → m < k → m ≤ 601 → NodeIn w S v n →
    Calls Try.prog 61 #[v, .int .i64 m] w fun e w' => e = .returned (.int .i64 (nsize n m)) ∧ Fr No w w'
  | 0, n, m, v, w, h0, hk, _, _ => by omega
  | k + 1, n, m, v, w, h0, hk, hm, hn => size_s n m v S w h0 hm hn (hid fun n' m' v' w' h h' hn' => size_c S k n' m' v' w' h (by omega) (by omega) hn')
theorem nodeA_load (n : Nd) (A : Option Addr) (cap : Nat) (w : World) : Blk (w.alloc (.cells (nodeA n A cap) 37)) w.heap.size 37 (nodeA n A cap) := Blk.new _ _ _
set_option maxRecDepth 100000 in
set_option maxHeartbeats 800000 in
theorem sizeTop_c (n : Nd) (v : Value) (S : Nat → Prop) (w : World) (hn : NodeIn w S v n) :
    Calls Try.prog 46 #[v] w fun e w' => e = .returned (.int .i64 (nsize n 601)) ∧ Fr No w w' := by
  obtain ⟨A, cap, rfl, hrep⟩ := hn
  have hB := Blk.new w 37 (nodeA n A cap)
  have hsz := size_c S 602 n 601 (.agg (nodeA n A cap)) _ (by omega) (by omega) (by omega) ⟨A, cap, rfl, hrep.alloc (.cells (nodeA n A cap) 37)⟩
  have hF0 : Fr No w _ := (Fr.refl No w).alloc (.cells (nodeA n A cap) 37)
  generalize hcs : nodeA n A cap = cs at *
  have Hcs := hid hcs
  clear hcs
  generalize nsize n 601 = r at *
  go_enter Try.func46, Try.ntmps46
  go_wp2_with (first | ((with_reducible refine at_load _ ?_); refine wpList_load_blk (cs := cs) rfl rfl rfl hB Try.underlying37 rfl (by rw [← Hcs.out]; exact infoNode) ?_) |
    (go_at_call 61; refine hsz.mono ?_; rintro e w2 ⟨rfl, hf2⟩))
  go_ret
  exact ⟨rfl, hF0.no hf2⟩
set_option maxRecDepth 100000 in
set_option maxHeartbeats 800000 in
theorem few_c (n : Nd) (v : Value) (S : Nat → Prop) (w : World) (hn : NodeIn w S v n) :
    Calls Try.prog 32 #[v] w fun e w' => e = .returned (.bool (decide (nsize n 601 ≤ 200))) ∧ Fr No w w' := by
  obtain ⟨A, cap, rfl, hrep⟩ := hn
  have hB := Blk.new w 37 (nodeA n A cap)
  have hsz := sizeTop_c n (.agg (nodeA n A cap)) S _ ⟨A, cap, rfl, hrep.alloc (.cells (nodeA n A cap) 37)⟩
  have hF0 : Fr No w _ := (Fr.refl No w).alloc (.cells (nodeA n A cap) 37)
  generalize hcs : nodeA n A cap = cs at *
  have Hcs := hid hcs
  clear hcs
  generalize nsize n 601 = r at *
  go_enter Try.func32, Try.ntmps32
  go_wp2_with (first | ((with_reducible refine at_load _ ?_); refine wpList_load_blk (cs := cs) rfl rfl rfl hB Try.underlying37 rfl (by rw [← Hcs.out]; exact infoNode) ?_) |
    (go_at_call 46; refine hsz.mono ?_; rintro e w2 ⟨rfl, hf2⟩))
  go_ret
  exact ⟨rfl, hF0.no hf2⟩
end Go.Proofs.Ytldmdlkjpdfonaa
